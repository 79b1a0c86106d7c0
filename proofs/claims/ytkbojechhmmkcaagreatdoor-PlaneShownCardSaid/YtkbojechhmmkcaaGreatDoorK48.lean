import Derived.Test.YtkbojechhmmkcaaGreatDoorK47
import Derived.Test.YtkbojechhmmkcaaGreatDoorK05
set_option linter.unusedVariables false
set_option linter.unusedSimpArgs false
set_option maxHeartbeats 4000000
set_option maxRecDepth 100000
namespace Lx
open Go Go.Lib
theorem Zavn (c:UInt8):decide (0≤indexByte [45,95,46,47,58,42] c)=(decide (c.toNat=45)||decide (c.toNat=95)||decide (c.toNat=46)||decide (c.toNat=47)||decide (c.toNat=58)||decide (c.toNat=42)):=by
 have h0: ∀ n:Fin 256,decide (0≤indexByte [45,95,46,47,58,42] (UInt8.ofNat n.val))=(decide (n.val=45)||decide (n.val=95)||decide (n.val=46)||decide (n.val=47)||decide (n.val=58)||decide (n.val=42)):=by decide+kernel
 have h:=h0 ⟨c.toNat,c.toNat_lt⟩
 rwa [show UInt8.ofNat (⟨c.toNat,c.toNat_lt⟩:Fin 256).val=c from UInt8.ofNat_toNat]at h
theorem Zbci: ∀ n:Fin 16,n.val<10→(hexL.getD n.val 0).toNat=48+n.val:=by decide
theorem Zawz: ∀ n:Fin 16,¬ n.val<10→(hexL.getD n.val 0).toNat=87+n.val:=by decide
def ubc (l:List UInt8):List Value:=l.map fun c=> .int .u8 (c.toNat:Int)
theorem Zvc (a b:List UInt8):ubc (a++b)=ubc a++ubc b:=Ybv
def Zfx (l:List UInt8) (k:Nat):List UInt8:=34::(l.take k).flatMap escB
theorem Zvw {l:List UInt8} {k:Nat} (h:k<l.length):Zfx l (k+1)=Zfx l k++escB l[k]:=by
 unfold Zfx;rw[Yax h,Ycf];simp
theorem Zawi (c:UInt8):(escB c).length≤4:=by
 unfold escB;split
 · simp
 · split<;>simp
theorem Zon (l:List UInt8): ∀ k,(Zfx l k).length≤4*k+1
 |0=>by simp[Zfx]
 | k +1=>by
   by_cases h:k<l.length
   · rw[Zvw h,Yae];have:=Zon l k;have:=Zawi l[k];omega
   · have:=Zon l k;unfold Zfx at this⊢;rw[Ybh (by omega)]at this⊢
     omega
theorem Zua {l:List UInt8} (h:Zep l=true):Zdi l=l:=by unfold Zdi;rw[Yam h]
theorem Zacd {l:List UInt8} (h:Zep l=false):Zdi l=Zfx l l.length++ [34]:=by
 unfold Zdi Zfx;rw[h,Ybw];simp
end Lx
namespace Go.Proofs.Zq
open Tryz
open Go Go.RowKit Go.Sort Lx
theorem Zarn (c:UInt8) (w:World):Calls prog 120 #[.int .u8 (c.toNat:Int)] w fun e w'=>e= .returned (.bool (Zna c))∧w'=w:=by
 have hc256:=c.toNat_lt
 have HX:Hid (Zna c=((decide (97≤c.toNat)&&decide (c.toNat≤122))||(decide (65≤c.toNat)&&decide (c.toNat≤90))||(decide (48≤c.toNat)&&decide (c.toNat≤57))||(decide (c.toNat=45)||decide (c.toNat=95)||decide (c.toNat=46)||decide (c.toNat=47)||decide (c.toNat=58)||decide (c.toNat=42)))):=by
  show _=_;unfold Zna;rw[Zavn]
 generalize c.toNat=n at *;go_enter func120,ntmps120;go_wp2_with fail
 all_goals
  go_ret;refine⟨Zah ?_,rfl⟩;rw[HX.out,Yby];simp only[Yef,Yaq,Yao]
  first|omega|(simp;omega)
theorem Zany (n:Nat) (hn:n<16) (w:World):Calls prog 76 #[.int .i64 (n:Int)] w fun e w'=>e= .returned (.int .u8 ((hexL.getD n 0).toNat:Int))∧w'=w:=by
 by_cases h:n<10
 · have HX:=Zbci ⟨n,hn⟩ h;rw[show(hexL.getD n 0).toNat=48+n from HX,Int.natCast_add];have h1:(n:Int)<10:=by omega
   clear HX;go_enter func76,ntmps76;go_wp2_with fail;go_ret;exact⟨rfl,rfl⟩
 · have HX:=Zawz ⟨n,hn⟩ h;rw[show(hexL.getD n 0).toNat=87+n from HX,Int.natCast_add];have h1: ¬ (n:Int)<10:=by omega
   clear HX;go_enter func76,ntmps76;go_wp2_with fail;go_ret;exact⟨congrArg (fun x=>Ending.returned (Value.int .u8 x)) (by omega),rfl⟩
theorem pre_two {l:List UInt8} (h:1<l.length):Lib.hasPrefix l [47,42]=(decide (l[0]=47)&&decide (l[1]=42)):=by
 rcases l with _|⟨a,_|⟨b,r⟩⟩
 · simp at h
 · simp at h
 · show(47==a&&(42==b&&true))=(decide (a=47)&&decide (b=42));rw[Bool.and_true,Yby];simp only[Yaq,beq_iff_eq,Yao];exact and_congr eq_comm eq_comm
theorem Zarc {l:List UInt8} (h: ¬ 1<l.length):Lib.hasPrefix l [47,42]=false:=by
 rcases l with _|⟨a,_|⟨b,r⟩⟩
 · rfl
 · show(47==a&&false)=false;rw[Yeo]
 · simp at h
theorem Zarl (s:ByteArray) (w:World) (hs:s.size≤1000000000):Calls prog 75 #[.string s] w fun e w'=>e= .returned (.bool (Zep s.data.toList))∧w'=w:=by
 have HB:=Zhd (fun c=>Zarn c w)
 have q1:(s.toList== [105,110,97,99,116,105,118,101,58])=decide (s.data.toList=Zaw):=Zgy s _;have q2:(s.toList== [112,114,111,116,101,99,116,58])=decide (s.data.toList=Zbk):=Zgy s _;have p1:decide (s.toList= [105,110,97,99,116,105,118,101,58])=decide (s.data.toList=Zaw):=by rw[←q1,Yby,Yao,beq_iff_eq]
 have p2:decide (s.toList= [112,114,111,116,101,99,116,58])=decide (s.data.toList=Zbk):=by rw[←q2,Yby,Yao,beq_iff_eq]
 by_cases h0:s.size=0
 · have HX:Hid (Zep s.data.toList=false):=by
    show _=_;have e:s.data.toList= []:=Yap (by rw[Zak];exact h0)
    rw[e];rfl
   have g0:s.toList.isEmpty=true:=by rw[Lib.toList_data,List.isEmpty_iff_length_eq_zero,Zak];exact h0
   clear q1 q2 p1 p2 h0 hs;go_enter func75,ntmps75;go_wp2_with fail;go_ret;exact⟨Zah HX.out.symm,rfl⟩
 have h1:0<s.size:=by omega
 have g0:s.toList.isEmpty=false:=by
  rw[Lib.toList_data];cases hl:s.data.toList with
  |nil=>have:=Zak s;rw[hl]at this;simp at this;omega
  |cons _ _=>rfl
 have HP:Hid (Zep s.data.toList=(decide (runB s.data.toList=s.size)&& !(decide (s.data.toList=Zaw)||decide (s.data.toList=Zbk)||Lib.hasPrefix s.data.toList [47,42]))):=by
  show _=_;unfold Zep;rw[Zak,Yal (show s.data.toList≠ []from fun e=>by rw[←Zak,e]at h1;exact Nat.lt_irrefl _ h1)];rfl
 generalize decide (s.data.toList=Zaw)=b1 at *;generalize decide (s.data.toList=Zbk)=b2 at *;cases b1 with
 | true=>
   have hK:Hid (Zep s.data.toList=false):=by show _=_;rw[HP.out];simp
   clear HP q2 p2 p1 h0;go_enter func75,ntmps75;go_wp2_with fail;go_ret;exact⟨Zah hK.out.symm,rfl⟩
 | false =>
   have p1': ¬ s.toList= [105,110,97,99,116,105,118,101,58]:=of_decide_eq_false p1;clear p1;cases b2 with
   | true=>
     have hK:Hid (Zep s.data.toList=false):=by show _=_;rw[HP.out];simp
     clear HP p2 h0;go_enter func75,ntmps75;go_wp2_with fail;go_ret;exact⟨Zah hK.out.symm,rfl⟩
   | false =>
     have p2': ¬ s.toList= [112,114,111,116,101,99,116,58]:=of_decide_eq_false p2;clear p2;have hz0:s.data.toList[0]'(by rw[Zak];omega)=s[0]:=rfl
     have hk:(1<s.size∧s[0].toNat=47∧ ∃ h:1<s.size,s[1].toNat=42)∨(¬ 1<s.size∨(1<s.size∧s[0].toNat≠47)∨(1<s.size∧s[0].toNat=47∧ ∃ h:1<s.size,s[1].toNat≠42)):=by
      by_cases a1:1<s.size
      · by_cases a2:s[0].toNat=47
        · by_cases a3:s[1].toNat=42
          · exact .inl ⟨a1,a2,a1,a3⟩
          · exact .inr (.inr (.inr ⟨a1,a2,a1,a3⟩))
        · exact .inr (.inr (.inl ⟨a1,a2⟩))
      · exact .inr (.inl a1)
     rcases hk with⟨a1,a2,a4,a3⟩|hk
     · have hK:Hid (Zep s.data.toList=false):=by
        show _=_;rw[HP.out,pre_two (by rw[Zak];exact a1),Yal (show s.data.toList[0]'(by rw[Zak];omega)=47 from Ybx.1 a2),Yal (show s.data.toList[1]'(by rw[Zak];omega)=42 from Ybx.1 a3)]
        simp
       have n0:((s[0].toNat:Int)==47)=true:=Znh a2;have n1:((s[1].toNat:Int)==42)=true:=Znh a3;have n2:(1:Int)<(s.size:Int):=by omega
       clear HP h0 a2 a3;go_enter func75,ntmps75;go_wp2_with fail;go_ret;exact⟨Zah hK.out.symm,rfl⟩
     · have hpre:Lib.hasPrefix s.data.toList [47,42]=false:=by
        rcases hk with a1|⟨a1,a2⟩|⟨a1,a2,a4,a3⟩
        · exact Zarc (by rw[Zak];exact a1)
        · rw[pre_two (by rw[Zak];exact a1),Yai (show ¬ s.data.toList[0]'(by rw[Zak];omega)=47 from fun e=>a2 (congrArg UInt8.toNat e))];rfl
        · rw[pre_two (by rw[Zak];exact a1),Yai (show ¬ s.data.toList[1]'(by rw[Zak];omega)=42 from fun e=>a3 (congrArg UInt8.toNat e)),Yeo]
       have hR:Hid (Zep s.data.toList=decide (runB s.data.toList=s.size)):=by show _=_;rw[HP.out,hpre];simp
       clear HP hpre h0
       have hk':(¬ (1:Int)<(s.size:Int))∨((1:Int)<(s.size:Int)∧((s[0].toNat:Int)==47)=false)∨((1:Int)<(s.size:Int)∧((s[0].toNat:Int)==47)=true∧ ∃ h:1<s.size,((s[1].toNat:Int)==42)=false):=by
        rcases hk with a1|⟨a1,a2⟩|⟨a1,a2,a4,a3⟩
        · exact .inl (by omega)
        · exact .inr (.inl ⟨by omega,Zkp a2⟩)
        · exact .inr (.inr ⟨by omega,Znh a2,a4,Zkp a3⟩)
       clear hk;rcases hk' with a1|⟨a1,a2⟩|⟨a1,a2,a4,a3⟩
       all_goals
        go_enter func75,ntmps75;go_wp2_with fail;go_loopw [3] (fun vi wr=> ∃ k:Nat,k≤s.size∧vi= .int .i64 k∧wr=w∧Hid (runB s.data.toList=k+runB (s.data.toList.drop k))) (fun vi _=>s.size-(intOf vi).toNat)
        case atStart=>exact⟨0,Yas _,rfl,rfl,by show _=_;simp⟩
        case round=>
         obtain⟨k,hk,rfl,rfl,HQ⟩:=hrel;by_cases hlt:k<s.size
         · have hd:=drop_at hlt
           have hst:Hid (runB s.data.toList=k+(if Zna s[k]=true then runB (s.data.toList.drop (k+1))+1 else 0)):=by
            show _=_;rw[HQ.out,hd];rfl
           have HC:=Zhd (HB.out s[k]);clear HQ hd;generalize Zna s[k]=b at *;cases b with
           | true=>
             have HN:Hid (runB s.data.toList=(k+1)+runB (s.data.toList.drop (k+1))):=by show _=_;rw[hst.out,Yam rfl];omega
             clear hst;go_wp2_with (go_at_call 120;refine HC.out.mono ?_;rintro e w' ⟨rfl,rfl⟩);go_roundw
             case rel=>exact⟨k+1,by omega,by go_num,by simp,HN⟩
             case measure=>simp[intOf];omega
           | false=>
             have HN:Hid (Zep s.data.toList=false):=by show _=_;rw[hR.out,hst.out,Yab (by decide)];exact Yai (by omega)
             clear hst;go_wp2_with (go_at_call 120;refine HC.out.mono ?_;rintro e w' ⟨rfl,rfl⟩);go_ret;exact⟨Zah HN.out.symm,rfl⟩
         · obtain rfl:k=s.size:=by omega
           have HN:Hid (Zep s.data.toList=true):=by show _=_;rw[hR.out,HQ.out,Ybe (by rw[Zak];exact Yaf _)];exact Yal rfl
           clear HQ;go_wp2_with fail;go_ret;exact⟨Zah HN.out.symm,rfl⟩
theorem Zavy {w:World} {base:Nat} {v:Value} {l:List UInt8} (h:w.ownsRow base 5 1 v l.length (ubc l)) (hl:0<l.length):(convert 65 9 v).run prog w= .ok (.string ⟨l.toArray⟩) w:=by
 rcases h.2 with⟨-,h0⟩|⟨g,cap,cur,hv,-⟩
 · omega
 · subst hv;refine run_convert_bytes_back w 65 9 5 _ cap l underlying65 underlying5 underlying9 fun j hj=> ?_
   refine h.cells rfl j _ ?_;unfold ubc;rw[Ydb,Yaj hj];rfl
theorem Zali (s:ByteArray) (w:World) (hs:s.size≤1000):Calls prog 42 #[.string s] w fun e w'=>e= .returned (.string ⟨(Zdi s.data.toList).toArray⟩)∧Below w.heap.size w w':=by
 have HB:=Zhd (Zarl s w (by omega))
 cases hb:Zep s.data.toList with
 | true=>
   rw[Zua hb,Lib.mk_data];rw[hb]at HB;clear hb;go_enter func42,ntmps42;go_wp2_with fail;refine HB.out.mono ?_;rintro e w1 ⟨rfl,rfl⟩;go_wp2_with fail;go_ret;exact⟨rfl,Yag _ _⟩
 | false=>
   rw[Zacd hb,Zak];rw[hb]at HB;have HDG:=Zhd (fun n hn W=>Zany n hn W)
   clear hb;go_enter func42,ntmps42;go_wp2_with fail;refine HB.out.mono ?_;rintro e w1 ⟨rfl,rfl⟩;obtain⟨i0,hi,hz0,hz1,hz2⟩:=info_parts Zapb;obtain⟨wo,hwo⟩: ∃ x,w1.alloc (.cells #[.int .u8 34] 5)=x:=⟨_,rfl⟩
   have HO:Hid (wo.ownsRow w1.heap.size 5 1 (.slice (some ⟨w1.heap.size,0,none⟩) 1 1) (Zfx s.data.toList 0).length (ubc (Zfx s.data.toList 0))):=by
    show World.ownsRow _ _ _ _ _ _ _;rw[←hwo];exact World.ownsRow_lit w1 #[.int .u8 34] 1 (Yaf _) (by decide) rfl
   have HB2:Hid (Below w1.heap.size w1 wo):=by show Below _ _ _;rw[←hwo];exact(Yag _ _).alloc (Yaf _) _
   go_wp2_with fail;clear hwo;go_loopw [3,4] (fun vo vi wr=> ∃ k:Nat,k≤s.size∧vi= .int .i64 k∧Hid (wr.ownsRow w1.heap.size 5 1 vo (Zfx s.data.toList k).length (ubc (Zfx s.data.toList k)))∧Hid (Below w1.heap.size w1 wr)) (fun _ vi _=>s.size-(intOf vi).toNat)
   case atStart=>exact⟨0,Yas _,rfl,HO,HB2⟩
   case round=>
    clear HO HB2;obtain⟨k,hk,rfl,HO,HB2⟩:=hrel;have hln:=Zon s.data.toList k;by_cases hlt:k<s.size
    · have hst:=Zvw (l:=s.data.toList) (k:=k) (by rw[Zak];exact hlt)
      rw[Zamz hlt]at hst;have hc256:=s[k].toNat_lt;obtain⟨c,hc⟩: ∃ c,s[k]=c:=⟨_,rfl⟩;have hkI:(k:Int)<(s.size:Int):=by omega
      by_cases h1:c=34∨c=92
      · have HS:Hid (Zfx s.data.toList (k+1)=Zfx s.data.toList k++ [92,c]):=by show _=_;rw[hst,hc];unfold escB;rw[Yam h1]
        have h2:c.toNat=34∨c.toNat=92:=h1.imp (congrArg UInt8.toNat) (congrArg UInt8.toNat);clear hst h1;rw[hc]at hc256;rcases h2 with h2|h2
        · have g1:((c.toNat:Int)==34)=true:=Znh h2;clear h2;go_wp2_with (at_builtin;refine Zfk rfl _ _ 65 rfl w1 wr 5 i0 _ 1 1 underlying65 hi hz0 hz1 hz2 rfl (by decide) (by decide) HO.out HB2.out rfl 2 2 [.int .u8 92, .int .u8 (c.toNat:Int)] rfl rfl (by intro u hu;simp only[Yav,Ybq,or_false]at hu;rcases hu with rfl|rfl<;>rfl) (by omega) ?_;intro v2 w2 hown2 hb2 _)
          have HO2:Hid (w2.ownsRow w1.heap.size 5 1 v2 (Zfx s.data.toList (k+1)).length (ubc (Zfx s.data.toList (k+1)))):=by
           show World.ownsRow _ _ _ _ _ _ _;rw[HS.out,Zvc,Yae];exact hown2
          have HB3:=Zhd hb2;clear hown2 hb2 HO HB2;try simp only[Act.put,Yaa,Yac,Yad]
          go_roundw
          case rel=>exact⟨k+1,by omega,by go_num,HO2,HB3⟩
          case measure=>simp[intOf];omega
        · have g1:((c.toNat:Int)==34)=false:=Zkp (show c.toNat≠34 by omega)
          have g2:((c.toNat:Int)==92)=true:=Znh h2;clear h2;go_wp2_with (at_builtin;refine Zfk rfl _ _ 65 rfl w1 wr 5 i0 _ 1 1 underlying65 hi hz0 hz1 hz2 rfl (by decide) (by decide) HO.out HB2.out rfl 2 2 [.int .u8 92, .int .u8 (c.toNat:Int)] rfl rfl (by intro u hu;simp only[Yav,Ybq,or_false]at hu;rcases hu with rfl|rfl<;>rfl) (by omega) ?_;intro v2 w2 hown2 hb2 _)
          have HO2:Hid (w2.ownsRow w1.heap.size 5 1 v2 (Zfx s.data.toList (k+1)).length (ubc (Zfx s.data.toList (k+1)))):=by
           show World.ownsRow _ _ _ _ _ _ _;rw[HS.out,Zvc,Yae];exact hown2
          have HB3:=Zhd hb2;clear hown2 hb2 HO HB2;try simp only[Act.put,Yaa,Yac,Yad]
          go_roundw
          case rel=>exact⟨k+1,by omega,by go_num,HO2,HB3⟩
          case measure=>simp[intOf];omega
      · have n1:c.toNat≠34:=fun e=>h1 (.inl (Ybx.1 e))
        have n2:c.toNat≠92:=fun e=>h1 (.inr (Ybx.1 e))
        have g1:((c.toNat:Int)==34)=false:=Zkp n1;have g2:((c.toNat:Int)==92)=false:=Zkp n2;rw[hc]at hc256;by_cases h3:c.toNat<32∨126<c.toNat
        · have HS:Hid (Zfx s.data.toList (k+1)=Zfx s.data.toList k++ [92,120,hexL.getD (c.toNat/16) 0,hexL.getD (c.toNat%16) 0]):=by show _=_;rw[hst,hc];unfold escB;rw[Yab h1,Yam h3]
          obtain⟨d1,hd1⟩: ∃ d,c.toNat/16=d:=⟨_,rfl⟩;obtain⟨d2,hd2⟩: ∃ d,c.toNat%16=d:=⟨_,rfl⟩;rw[hd1,hd2]at HS;have e1:(c.toNat:Int).tdiv 16=(d1:Int):=by rw[Int.tdiv_eq_ediv_of_nonneg (by omega)];omega
          have e2:(c.toNat:Int).tmod 16=(d2:Int):=by rw[Int.tmod_eq_emod_of_nonneg (by omega)];omega
          have l1:d1<16:=by omega
          have l2:d2<16:=by omega
          have HD1:=Zhd (HDG.out d1 l1);have HD2:=Zhd (HDG.out d2 l2);generalize hexL.getD d1 0=x1 at *;generalize hexL.getD d2 0=x2 at *;clear hst h1 hd1 hd2 HDG n1 n2;have h4:(c.toNat:Int)<32∨(¬ (c.toNat:Int)<32∧126<(c.toNat:Int)):=by omega
          clear h3;rcases h4 with g3|⟨g3,g4⟩
          all_goals
           go_wp2_with (first|(go_at_call_of 76 (Value.int .i64 (d1:Int));refine(HD1.out _).mono ?_;rintro e w' ⟨rfl,rfl⟩)|(go_at_call_of 76 (Value.int .i64 (d2:Int));refine(HD2.out _).mono ?_;rintro e w' ⟨rfl,rfl⟩)|(at_builtin;refine Zfk rfl _ _ 65 rfl w1 _ 5 i0 _ 1 1 underlying65 hi hz0 hz1 hz2 rfl (by decide) (by decide) HO.out HB2.out rfl 4 4 [.int .u8 92, .int .u8 120, .int .u8 (x1.toNat:Int), .int .u8 (x2.toNat:Int)] rfl rfl (by intro u hu;simp only[Yav,Ybq,or_false]at hu;rcases hu with rfl|rfl|rfl|rfl<;>rfl) (by omega) ?_;intro v2 w2 hown2 hb2 _))
           have HO2:Hid (w2.ownsRow w1.heap.size 5 1 v2 (Zfx s.data.toList (k+1)).length (ubc (Zfx s.data.toList (k+1)))):=by
            show World.ownsRow _ _ _ _ _ _ _;rw[HS.out,Zvc,Yae];exact hown2
           have HB3:=Zhd hb2;clear hown2 hb2 HO HB2;try simp only[Act.put,Yaa,Yac,Yad]
           go_roundw
           case rel=>exact⟨k+1,by omega,by go_num,HO2,HB3⟩
           case measure=>simp[intOf];omega
        · have HS:Hid (Zfx s.data.toList (k+1)=Zfx s.data.toList k++ [c]):=by show _=_;rw[hst,hc];unfold escB;rw[Yab h1,Yab h3]
          have g3: ¬ (c.toNat:Int)<32:=by omega
          have g4: ¬ 126<(c.toNat:Int):=by omega
          clear hst h1 h3 n1 n2;go_wp2_with ((at_builtin;refine Zfk rfl _ _ 65 rfl w1 wr 5 i0 _ 1 1 underlying65 hi hz0 hz1 hz2 rfl (by decide) (by decide) HO.out HB2.out rfl 1 1 [.int .u8 (c.toNat:Int)] rfl rfl (by intro u hu;simp only[Yav,Ybq,or_false]at hu;rcases hu with rfl<;>rfl) (by omega) ?_;intro v2 w2 hown2 hb2 _))
          have HO2:Hid (w2.ownsRow w1.heap.size 5 1 v2 (Zfx s.data.toList (k+1)).length (ubc (Zfx s.data.toList (k+1)))):=by
           show World.ownsRow _ _ _ _ _ _ _;rw[HS.out,Zvc,Yae];exact hown2
          have HB3:=Zhd hb2;clear hown2 hb2 HO HB2;try simp only[Act.put,Yaa,Yac,Yad]
          go_roundw
          case rel=>exact⟨k+1,by omega,by go_num,HO2,HB3⟩
          case measure=>simp[intOf];omega
    · obtain rfl:k=s.size:=by omega
      clear hlt;go_wp2_with (at_builtin;refine Zfk rfl _ _ 65 rfl w1 wr 5 i0 _ 1 1 underlying65 hi hz0 hz1 hz2 rfl (by decide) (by decide) HO.out HB2.out rfl 1 1 [.int .u8 34] rfl rfl (by intro u hu;rw[Ybu]at hu;rw[hu];rfl) (by omega) ?_;intro v2 w2 hown2 hb2 _;have hcv:=Zavy (l:=Zfx s.data.toList s.size++ [34]) (by rw[Zvc,Yae];exact hown2) (by simp);have HB3:=Zhd hb2;clear hown2 hb2)
      go_ret;exact⟨rfl,HB3.out⟩
end Go.Proofs.Zq
