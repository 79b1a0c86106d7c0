import Derived.Test.YtkbojechhmmkcaaGreatDoorJ21
set_option linter.unusedVariables false
set_option linter.unusedSimpArgs false
set_option maxHeartbeats 4000000
set_option maxRecDepth 100000
namespace Edt
open Go Go.Lib Go.Sort Tre Prs Lns
def cmpS (a b:ByteArray):Int:=compareBytes a.data.toList b.data.toList
def cmpL:List ByteArray→List ByteArray→Int
 | [],[]=>0
 | [],_::_=> -1
 |_::_,[]=>1
 |x::a,y::b=>if cmpS x y≠0 then cmpS x y else cmpL a b
theorem Zajm (x y:ByteArray) (a b:List ByteArray):cmpL (x::a) (y::b)=if cmpS x y≠0 then cmpS x y else cmpL a b:=by rw[cmpL]
theorem Zaec (a b:ByteArray):Op.bytesLess a.toList b.toList=decide (cmpS a b<0):=by
 unfold cmpS;rw[Proofs.bytesLess_eq,Lib.toList_data,Lib.toList_data,decide_eq_decide];exact Zqp.symm
theorem Zapn (a b:ByteArray):cmpS a b<0↔a.toList<b.toList:=by
 unfold cmpS;rw[Lib.toList_data,Lib.toList_data];exact Zqp
theorem Zfd {a b:ByteArray}:cmpS a b=0↔a=b:=by
 constructor
 · intro h;exact ByteArray.ext (Ydz.1 (Zod h))
 · rintro rfl;exact Zajf _
theorem Zapo (a b:ByteArray):cmpS a b= -1∨cmpS a b=0∨cmpS a b=1:=by
 unfold cmpS;generalize a.data.toList=x;generalize b.data.toList=y
 induction x generalizing y with
 |nil=>cases y<;>simp[compareBytes]
 | cons c x ih=>
   cases y with
   |nil=>simp[compareBytes]
   | cons d y=>
     unfold compareBytes;split
     · exact .inl rfl
     · split
       · exact .inr (.inr rfl)
       · exact ih y
theorem Zip: ∀ {a b:List ByteArray},cmpL a b<0↔pLt a b
 | [],[]=>⟨fun h=>by simp[cmpL]at h,fun h=>absurd h (Zbz _)⟩
 | [],y::b=>⟨fun _=>Zabt _ _,fun _=>by simp[cmpL]⟩
 |x::a,[]=>⟨fun h=>by simp[cmpL]at h,fun h=>absurd h (Zja _)⟩
 | x ::a,y::b=>by
   rw[Zel,←Zapn];unfold cmpL;by_cases h:cmpS x y=0
   · rw[Yad (fun e=>e h),Zip (a:=a) (b:=b),h]
     have e:=Zfd.1 h;exact⟨fun g=> .inr ⟨e,g⟩,fun g=>g.elim (fun g=>by omega) (·.2)⟩
   · rw[Yan h];exact⟨.inl,fun g=>g.elim id fun g=>absurd (Zfd.2 g.1) h⟩
theorem Zhp: ∀ {a b:List ByteArray},cmpL a b=0↔a=b
 | [],[]=>⟨fun _=>rfl,fun _=>rfl⟩
 | [],y::b=>⟨fun h=>by simp[cmpL]at h,fun h=>by cases h⟩
 |x::a,[]=>⟨fun h=>by simp[cmpL]at h,fun h=>by cases h⟩
 | x ::a,y::b=>by
   unfold cmpL;by_cases h:cmpS x y=0
   · rw[Yad (fun e=>e h),Zhp (a:=a) (b:=b),Zfd.1 h]
     exact⟨fun g=>by rw[g],fun g=>by injection g⟩
   · rw[Yan h];exact⟨fun g=>absurd g h,fun g=>absurd (Zfd.2 (by injection g)) h⟩
theorem Zmr: ∀ (a b:List ByteArray),cmpL a b<0↔0<cmpL b a
 | [],[]=>by simp[cmpL]
 | [],y::b=>by simp[cmpL]
 |x::a,[]=>by simp[cmpL]
 | x::a,y::b=>by
   have h1:cmpS x y<0↔0<cmpS y x:=Zqo _ _;have h2:cmpS x y=0↔cmpS y x=0:=by rw[Zfd,Zfd];exact⟨Eq.symm,Eq.symm⟩
   unfold cmpL;by_cases h:cmpS x y=0
   · rw[Yad (fun e=>e h),Yad (fun e=>e (h2.1 h)),Zmr a b]
   · rw[Yan h,Yan (fun e=>h (h2.2 e)),h1]
theorem Zasf:Pre cmpL where
 same a:=Zhp.2 rfl
 anti:=Zmr
 trans a b d h1 h2:=by
  rcases Yea h1 with h3|h3
  · rcases Yea h2 with h4|h4
    · have:=Zip.2 (Zcb (Zip.1 h3) (Zip.1 h4));omega
    · rw[←Zhp.1 h4];exact h1
  · rw[Zhp.1 h3];exact h2
end Edt
namespace Go.Proofs.Zq
open Tryz
open Go Go.RowKit Go.Sort Tre Lx Prs Lns Edt
theorem Zyl (s:ByteArray) (w:World):Calls prog 164 #[.string s] w fun e w'=>e= .returned (.bool false)∧w'=w:=by
 go_enter func164,ntmps164;go_wp2;go_ret;exact⟨by simp,rfl⟩
theorem Zapp (s t:ByteArray) (w:World):Calls prog 123 #[.string s, .string t] w fun e w'=>e= .returned (.int .i64 (cmpS s t))∧w'=w:=by
 have H1:=Zhd (fun W=>Zyl s W)
 have H2:=Zhd (fun W=>Zyl t W)
 have h1:=Zaec s t;have h2:=Zaec t s;have h3:cmpS s t<0↔0<cmpS t s:=Zqo _ _;have h4:cmpS t s<0↔0<cmpS s t:=Zqo _ _;have hv:=Zapo s t
 have key: ∀ (z:Int) (q1 q2:Bool),Hid (q1=true∧z= -1∨q1=false∧q2=false∧z=1∨q1=false∧q2=true∧z=0)→Op.bytesLess s.toList t.toList=q1→(s.toList==t.toList)=q2→Calls prog 123 #[.string s, .string t] w fun e w'=>e= .returned (.int .i64 z)∧w'=w:=by
  clear h1 h2 h3 h4 hv;intro z q1 q2 hq e1 e2;rcases hq.out with⟨rfl,rfl⟩|⟨rfl,rfl,rfl⟩|⟨rfl,rfl,rfl⟩
  all_goals
   clear hq;go_enter func123,ntmps123;go_wp2_with fail;refine(H1.out w).mono ?_;rintro e w' ⟨rfl,rfl⟩;go_wp2_with fail;refine(H2.out w').mono ?_;rintro e w' ⟨rfl,rfl⟩;go_wp2;go_ret;exact⟨rfl,rfl⟩
 rcases hv with hv|hv|hv
 · exact key _ _ _ (.inl ⟨rfl,hv⟩) (by rw[h1,hv];rfl) rfl
 · exact key _ _ _ (.inr (.inr ⟨rfl,rfl,hv⟩)) (by rw[h1,hv];rfl) (by rw[Zfd.1 hv];exact beq_self_eq_true _)
 · exact key _ _ _ (.inr (.inl ⟨rfl,rfl,hv⟩)) (by rw[h1,hv];rfl) (by
    rw[Yai];intro e;have:=Zfd.2 (Zjq e);omega)
theorem Zapm (A A2:Option Addr) (c c2:Nat) (P P2:List ByteArray) (w:World) (hR:Rd w 1 A P.length (sv P)) (hR2:Rd w 1 A2 P2.length (sv P2)) (hl:P.length≤1000000) (hl2:P2.length≤1000000):
 Calls prog 83 #[.slice A P.length c, .slice A2 P2.length c2] w fun e w'=>e= .returned (.int .i64 (cmpL P P2))∧w'=w:=by
 have HR:=Zhd hR;have HR2:=Zhd hR2;have HC:=Zhd (fun s t W=>Zapp s t W)
 clear hR hR2;go_enter func83,ntmps83;go_wp2;go_loopw [11] (fun vi wr=> ∃ k:Nat,k≤P.length∧k≤P2.length∧vi= .int .i64 k∧Hid (cmpL P P2=cmpL (P.drop k) (P2.drop k))∧wr=w) (fun vi _=>P.length-(intOf vi).toNat)
 case atStart=>exact⟨0,Yao _,Yao _,rfl,rfl,rfl⟩
 case round=>
  obtain⟨k,hk,hk2,rfl,HQ,rfl⟩:=hrel;by_cases hlt:k<P.length
  · obtain⟨b,o,rfl,hab,hadd,x1⟩:=HR.out.strAt hlt;have hd:P.drop k=P[k]::P.drop (k+1):=Yay hlt;by_cases hlt2:k<P2.length
    · obtain⟨b2,o2,rfl,hab2,hadd2,x2⟩:=HR2.out.strAt hlt2;have hd2:P2.drop k=P2[k]::P2.drop (k+1):=Yay hlt2;have hq:=HQ.out;rw[hd,hd2,Zajm]at hq;have hge: ¬ (P2.length:Int)≤(k:Int):=by omega
      clear HQ hd hd2;generalize P[k]=s at *;generalize P2[k]=t at *;have HC2:=Zhd (HC.out s t wr);by_cases hz:cmpS s t=0
      · rw[Yad (fun e=>e hz)]at hq
        rw[hz]at HC2;have HQ2:=Zhd hq;clear hq hz;go_wp2_with fail;refine HC2.out.mono ?_;rintro e w' ⟨rfl,rfl⟩;go_wp2;go_roundw
        case rel=>exact⟨k+1,by omega,by omega,by go_num,HQ2,by first|trivial|rfl⟩
        case measure=>simp[intOf];omega
      · rw[Yan hz]at hq;have HQ2:=Zhd hq;have qz:(cmpS s t !=0)=true:=by rw[bne_iff_ne];exact hz
        clear hq hz;generalize cmpS s t=z at *;go_wp2_with fail;refine HC2.out.mono ?_;rintro e w' ⟨rfl,rfl⟩;go_wp2;go_ret;exact⟨Zci HQ2.out.symm,rfl⟩
    · have hq:=HQ.out;rw[hd,show P2.drop k= []from Ybe (by omega)]at hq
      have HQ2:Hid (cmpL P P2=1):=hq;have hge:(P2.length:Int)≤(k:Int):=by omega
      clear HQ hd hq;go_wp2;go_ret;exact⟨Zci HQ2.out.symm,rfl⟩
  · have hke:k=P.length:=by omega
    have hq:=HQ.out;rw[show P.drop k= []from Ybe (by omega)]at hq
    clear HQ;by_cases hlt2:P.length<P2.length
    · have hI:(P.length:Int)<(P2.length:Int):=by omega
      have HQ2:Hid (cmpL P P2= -1):=by
       show _=_;rw[hq,show P2.drop k=P2[k]::P2.drop (k+1)from Yay (by omega)];rfl
      clear hq;go_wp2;go_ret;exact⟨Zci HQ2.out.symm,rfl⟩
    · have hI: ¬ (P.length:Int)<(P2.length:Int):=by omega
      have HQ2:Hid (cmpL P P2=0):=by
       show _=_;rw[hq,show P2.drop k= []from Ybe (by omega)];rfl
      clear hq;go_wp2;go_ret;exact⟨Zci HQ2.out.symm,rfl⟩
end Go.Proofs.Zq
namespace Go.Proofs
open Go.Shelf
def Tryz.sortP6_ren:Go.Shelf.Ren:=⟨fun|6=>81|15=>122|14=>121|28=>162|29=>163|20=>154|21=>155|22=>156|23=>157|24=>158|25=>159|26=>160|27=>161|46=>194|47=>195|48=>196|49=>197|50=>198|57=>222|n=>n,fun|22=>71|24=>34|25=>139|3=>3|39=>176|0=>0|53=>211|55=>213|4=>4|46=>205|45=>204|50=>90|5=>5|9=>9|66=>241|70=>245|76=>263|77=>164|n=>n,fun|n=>n⟩
theorem Tryz.sortP6:Go.Proofs.SlLaysF.n6 prog Tryz.sortP6_ren:={
 mixed:=by kernel_rfl
 f6:=⟨Tryz.f81.name,by decide,func81.trans (congrArg some (by kernel_rfl))⟩
 f14:=⟨Tryz.f121.name,by decide,func121.trans (congrArg some (by kernel_rfl))⟩
 f15:=func122.trans (congrArg some (by kernel_rfl))
 f20:=⟨Tryz.f154.name,by decide,func154.trans (congrArg some (by kernel_rfl))⟩
 f21:=⟨Tryz.f155.name,by decide,func155.trans (congrArg some (by kernel_rfl))⟩
 f22:=⟨Tryz.f156.name,by decide,func156.trans (congrArg some (by kernel_rfl))⟩
 f23:=⟨Tryz.f157.name,by decide,func157.trans (congrArg some (by kernel_rfl))⟩
 f24:=⟨Tryz.f158.name,by decide,func158.trans (congrArg some (by kernel_rfl))⟩
 f25:=⟨Tryz.f159.name,by decide,func159.trans (congrArg some (by kernel_rfl))⟩
 f26:=⟨Tryz.f160.name,by decide,func160.trans (congrArg some (by kernel_rfl))⟩
 f27:=⟨Tryz.f161.name,by decide,func161.trans (congrArg some (by kernel_rfl))⟩
 f28:=func162.trans (congrArg some (by kernel_rfl))
 f29:=func163.trans (congrArg some (by kernel_rfl))
 f46:=⟨Tryz.f194.name,by decide,func194.trans (congrArg some (by kernel_rfl))⟩
 f47:=func195.trans (congrArg some (by kernel_rfl))
 f48:=func196.trans (congrArg some (by kernel_rfl))
 f49:=⟨Tryz.f197.name,by decide,func197.trans (congrArg some (by kernel_rfl))⟩
 f50:=⟨Tryz.f198.name,by decide,func198.trans (congrArg some (by kernel_rfl))⟩
 f57:=⟨Tryz.f222.name,by decide,func222.trans (congrArg some (by kernel_rfl))⟩
 t0:=underlying0
 a0:=Tryz.isAgg0
 z0:=Tryz.sizeOf0
 v0:=Tryz.zeroValue0
 t3:=underlying3
 a3:=Tryz.isAgg3
 z3:=Tryz.sizeOf3
 v3:=Tryz.zeroValue3
 t4:=underlying4
 a4:=Tryz.isAgg4
 z4:=Tryz.sizeOf4
 v4:=Tryz.zeroValue4
 t5:=underlying5
 a5:=Tryz.isAgg5
 z5:=Tryz.sizeOf5
 v5:=Tryz.zeroValue5
 t9:=underlying9
 a9:=Tryz.isAgg9
 z9:=Tryz.sizeOf9
 v9:=Tryz.zeroValue9
 t22:=underlying71
 a22:=Tryz.isAgg71
 z22:=Tryz.sizeOf71
 v22:=Tryz.zeroValue71
 a24:=Tryz.isAgg34
 z24:=Tryz.sizeOf34
 t25:=underlying139
 a25:=Tryz.isAgg139
 z25:=Tryz.sizeOf139
 v25:=Tryz.zeroValue139
 t39:=underlying176
 a39:=Tryz.isAgg176
 z39:=Tryz.sizeOf176
 v39:=Tryz.zeroValue176
 t45:=underlying204
 a45:=Tryz.isAgg204
 z45:=Tryz.sizeOf204
 v45:=Tryz.zeroValue204
 t46:=underlying205
 a46:=Tryz.isAgg205
 z46:=Tryz.sizeOf205
 v46:=Tryz.zeroValue205
 t50:=underlying90
 a50:=Tryz.isAgg90
 z50:=Tryz.sizeOf90
 v50:=Tryz.zeroValue90
 t53:=underlying211
 a53:=Tryz.isAgg211
 z53:=Tryz.sizeOf211
 v53:=Tryz.zeroValue211
 t55:=underlying213
 a55:=Tryz.isAgg213
 z55:=Tryz.sizeOf213
 v55:=Tryz.zeroValue213
 t66:=underlying241
 a66:=Tryz.isAgg241
 z66:=Tryz.sizeOf241
 v66:=Tryz.zeroValue241
 t70:=underlying245
 a70:=Tryz.isAgg245
 z70:=Tryz.sizeOf245
 v70:=Tryz.zeroValue245
 t76:=underlying263
 a76:=Tryz.isAgg263
 z76:=Tryz.sizeOf263
 v76:=Tryz.zeroValue263
 t77:=underlying164
 a77:=Tryz.isAgg164
 z77:=Tryz.sizeOf164
 v77:=Tryz.zeroValue164}
def Tryz.sortP06_ren:Go.Shelf.Ren:=⟨fun|6=>81|15=>122|14=>121|28=>162|29=>163|20=>154|21=>155|22=>156|23=>157|24=>158|25=>159|26=>160|27=>161|46=>194|47=>195|48=>196|49=>197|50=>198|57=>222|n=>n,fun|22=>71|24=>34|25=>139|3=>3|39=>176|0=>0|53=>211|55=>213|4=>4|46=>205|45=>204|50=>90|5=>5|9=>9|66=>241|70=>245|76=>263|77=>164|n=>n,fun|n=>n⟩
theorem Tryz.sortP06:Go.Proofs.SlLaysF0.n6 prog Tryz.sortP06_ren:={
 mixed:=by kernel_rfl
 f6:=⟨Tryz.f81.name,by decide,func81.trans (congrArg some (by kernel_rfl))⟩
 f14:=⟨Tryz.f121.name,by decide,func121.trans (congrArg some (by kernel_rfl))⟩
 f15:=func122.trans (congrArg some (by kernel_rfl))
 f20:=⟨Tryz.f154.name,by decide,func154.trans (congrArg some (by kernel_rfl))⟩
 f21:=⟨Tryz.f155.name,by decide,func155.trans (congrArg some (by kernel_rfl))⟩
 f22:=⟨Tryz.f156.name,by decide,func156.trans (congrArg some (by kernel_rfl))⟩
 f23:=⟨Tryz.f157.name,by decide,func157.trans (congrArg some (by kernel_rfl))⟩
 f24:=⟨Tryz.f158.name,by decide,func158.trans (congrArg some (by kernel_rfl))⟩
 f25:=⟨Tryz.f159.name,by decide,func159.trans (congrArg some (by kernel_rfl))⟩
 f26:=⟨Tryz.f160.name,by decide,func160.trans (congrArg some (by kernel_rfl))⟩
 f27:=⟨Tryz.f161.name,by decide,func161.trans (congrArg some (by kernel_rfl))⟩
 f28:=func162.trans (congrArg some (by kernel_rfl))
 f29:=func163.trans (congrArg some (by kernel_rfl))
 f46:=⟨Tryz.f194.name,by decide,func194.trans (congrArg some (by kernel_rfl))⟩
 f47:=func195.trans (congrArg some (by kernel_rfl))
 f48:=func196.trans (congrArg some (by kernel_rfl))
 f49:=⟨Tryz.f197.name,by decide,func197.trans (congrArg some (by kernel_rfl))⟩
 f50:=⟨Tryz.f198.name,by decide,func198.trans (congrArg some (by kernel_rfl))⟩
 f57:=⟨Tryz.f222.name,by decide,func222.trans (congrArg some (by kernel_rfl))⟩
 t0:=underlying0
 a0:=Tryz.isAgg0
 z0:=Tryz.sizeOf0
 v0:=Tryz.zeroValue0
 t3:=underlying3
 a3:=Tryz.isAgg3
 z3:=Tryz.sizeOf3
 v3:=Tryz.zeroValue3
 t4:=underlying4
 a4:=Tryz.isAgg4
 z4:=Tryz.sizeOf4
 v4:=Tryz.zeroValue4
 t5:=underlying5
 a5:=Tryz.isAgg5
 z5:=Tryz.sizeOf5
 v5:=Tryz.zeroValue5
 t9:=underlying9
 a9:=Tryz.isAgg9
 z9:=Tryz.sizeOf9
 v9:=Tryz.zeroValue9
 t22:=underlying71
 a22:=Tryz.isAgg71
 z22:=Tryz.sizeOf71
 v22:=Tryz.zeroValue71
 t25:=underlying139
 a25:=Tryz.isAgg139
 z25:=Tryz.sizeOf139
 v25:=Tryz.zeroValue139
 t39:=underlying176
 a39:=Tryz.isAgg176
 z39:=Tryz.sizeOf176
 v39:=Tryz.zeroValue176
 t45:=underlying204
 a45:=Tryz.isAgg204
 z45:=Tryz.sizeOf204
 v45:=Tryz.zeroValue204
 t46:=underlying205
 a46:=Tryz.isAgg205
 z46:=Tryz.sizeOf205
 v46:=Tryz.zeroValue205
 t50:=underlying90
 a50:=Tryz.isAgg90
 z50:=Tryz.sizeOf90
 v50:=Tryz.zeroValue90
 t53:=underlying211
 a53:=Tryz.isAgg211
 z53:=Tryz.sizeOf211
 v53:=Tryz.zeroValue211
 t55:=underlying213
 a55:=Tryz.isAgg213
 z55:=Tryz.sizeOf213
 v55:=Tryz.zeroValue213
 t66:=underlying241
 a66:=Tryz.isAgg241
 z66:=Tryz.sizeOf241
 v66:=Tryz.zeroValue241
 t70:=underlying245
 a70:=Tryz.isAgg245
 z70:=Tryz.sizeOf245
 v70:=Tryz.zeroValue245
 t76:=underlying263
 a76:=Tryz.isAgg263
 z76:=Tryz.sizeOf263
 v76:=Tryz.zeroValue263
 t77:=underlying164
 a77:=Tryz.isAgg164
 z77:=Tryz.sizeOf164
 v77:=Tryz.zeroValue164}
end Go.Proofs
namespace Edt
open Go Go.Lib Go.Sort Tre Prs Lns
def insP (p:List ByteArray):List (List ByteArray)→List (List ByteArray)
 | []=> [p]
 |q::r=>if cmpL p q=0 then q::r else if cmpL p q<0 then p::q::r else q::insP p r
def uniS (l:List (List ByteArray)):List (List ByteArray):=l.foldr insP []
theorem Zwf {p x:List ByteArray}: ∀ {l:List (List ByteArray)},x∈insP p l↔x=p∨x∈l
 | []=>by simp[insP]
 | q ::r=>by
   unfold insP;by_cases h:cmpL p q=0
   · rw[Yan h,Zhp.1 h];simp
   · rw [Yad h];by_cases h2:cmpL p q<0
     · rw[Yan h2];simp
     · rw[Yad h2,Yax,Zwf,Yax];constructor
       · rintro(h|h|h)
         · exact .inr (.inl h)
         · exact .inl h
         · exact .inr (.inr h)
       · rintro(h|h|h)
         · exact .inr (.inl h)
         · exact .inl h
         · exact .inr (.inr h)
theorem Zafa {p:List ByteArray}: ∀ {l:List (List ByteArray)},l.Pairwise pLt→(insP p l).Pairwise pLt
 | [],_=>by simp[insP]
 | q ::r,h=>by
   obtain⟨h1,h2⟩:=Ycd.1 h;unfold insP;by_cases h3:cmpL p q=0
   · rw[Yan h3];exact h
   · rw[Yad h3];by_cases h4:cmpL p q<0
     · rw[Yan h4];have h5:=Zip.1 h4;refine Ycd.2 ⟨fun x hx=> ?_,h⟩
       rcases Yax.1 hx with rfl|hx
       · exact h5
       · exact Zcb h5 (h1 x hx)
     · rw[Yad h4];refine Ycd.2 ⟨fun x hx=> ?_,Zafa h2⟩
       rcases Zwf.1 hx with rfl|hx
       · rw[←Zip,Zmr];omega
       · exact h1 x hx
theorem Zwg {x:List ByteArray}: ∀ {l:List (List ByteArray)},x∈uniS l↔x∈l
 | []=>Iff.rfl
 | q::r=>by
   show x∈insP q (uniS r)↔_;rw[Zwf,Zwg,Yax]
theorem Zqd: ∀ (l:List (List ByteArray)),(uniS l).Pairwise pLt
 | []=>List.Pairwise.nil
 |q::r=>Zafa (Zqd r)
theorem Zawx {S l:List (List ByteArray)} (h:S.Pairwise pLt) (hm: ∀ x,x∈S↔x∈l):S=uniS l:=
 Zns h (Zqd l) fun q=>by rw[hm,Zwg]
end Edt
namespace Go.Proofs.Zq
open Tryz
open Go Go.RowKit Go.Sort Tre Lx Prs Lns Edt
abbrev PV:=Value×List ByteArray
def POwn (w:World) (x:PV):Prop:=w.ownsRow 0 9 1 x.1 x.2.length (sv x.2)
def PRow (w:World) (base:Nat) (v:Value) (Q:List PV):Prop:=w.ownsRow base 34 1 v Q.length (Q.map Prod.fst)∧ ∀ x∈Q,POwn w x
theorem POwn.below {w w':World} {x:PV} (h:POwn w x) (hb:Below w.heap.size w w'):POwn w' x:=Zah h hb
theorem PRow.below {w w':World} {base:Nat} {v:Value} {Q:List PV} (h:PRow w base v Q) (hb:Below w.heap.size w w'):PRow w' base v Q:=⟨Zah h.1 hb,fun x hx=>(h.2 x hx).below hb⟩
theorem POwn.keep {w w':World} {x:PV} (h:POwn w x) (k:Zbn 34 w w'):POwn w' x:=k.own (by decide) h
theorem POwn.cell {w:World} {x:PV} (h:POwn w x):x.1.oneCell'=true:=by
 obtain⟨A,c,e,-⟩:=Zbe h;rw[e];rfl
theorem POwn.pr {w:World} {x:PV} (h:POwn w x):Pr w x.1 x.2:=Pr.own h
theorem Zash (w:World) (base:Nat):PRow w base (.slice none 0 0) []:=⟨World.ownsRow_nil _ _ _ _,fun x hx=>by cases hx⟩
theorem Zamx {w w':World} {base:Nat} {v':Value} {Q:List PV} {x:PV} (h:w'.ownsRow base 34 1 v' (Q.length+1) (Q.map Prod.fst++ [x.1])) (hq: ∀ y∈Q,POwn w y) (hx:POwn w x) (k:Zbn 34 w w'):PRow w' base v' (Q++ [x]):=by
 refine⟨by simpa using h,fun y hy=> ?_⟩
 rcases Ybl.1 hy with hy|hy
 · exact(hq y hy).keep k
 · rw[Ybt]at hy;rw[hy];exact hx.keep k
theorem Zhs:(prog.info? 34).map (fun i=>(i.zero,i.size,i.bytes))=some (some (.slice none 0 0),1,24):=by kernel_rfl
theorem Zasd (x y:PV) (w:World) (hx:POwn w x) (hy:POwn w y) (hl:x.2.length≤1000000) (hl2:y.2.length≤1000000):
 Calls prog 82 #[x.1,y.1] w fun e w'=>e= .returned (.int .i64 (cmpL x.2 y.2))∧w'=w:=by
 obtain⟨v,P⟩:=x;obtain⟨v2,P2⟩:=y;have hx':Pr w v P:=hx.pr;have hy':Pr w v2 P2:=hy.pr;obtain⟨A,c,rfl,-,-,hR⟩:=hx';obtain⟨A2,c2,rfl,-,-,hR2⟩:=hy';have HC:=Zhd (Zapm A A2 c c2 P P2 w hR hR2 hl hl2);clear hx hy hR hR2;go_enter func82,ntmps82;go_wp2_with fail;refine HC.out.mono ?_;rintro e w' ⟨rfl,rfl⟩;go_wp2;go_ret;exact⟨rfl,rfl⟩
theorem Zyn {α:Type} [Inhabited α] {enc:α→Value} {e:TypeId} {w:World} {g n:Nat} {d:Array α} {os:Array Obj} {cur:Array Value} (hg:w.heap[g]?=some (.cells cur e (0,0))):Zbn e w (sortWorld enc w g 0 n d os):=by
 intro k c T hT hk;have hlt:k<w.heap.size:=(Ybc.1 hk).1
 have hne:g≠k:=fun h=>by
  subst h;rw[hg]at hk;injection hk with hk
  injection hk with h1 h2
  exact hT h2.symm
 have h1:(putRow enc (Sort.ahead w n) g 0 d).heap[k]?=w.heap[k]?:=by
  simp[putRow,mapBlock,Sort.ahead,Array.getElem?_modify,hne]
 have h2:k<(putRow enc (Sort.ahead w n) g 0 d).heap.size:=by simpa[putRow,mapBlock,Sort.ahead]using hlt
 have h3:(sortWorld enc w g 0 n d os).heap[k]?=(putRow enc (Sort.ahead w n) g 0 d).heap[k]?:=by
  unfold sortWorld;simp[grow,Array.getElem?_append_left h2]
 rw[h3,h1,hk]
theorem Zanx (Q:List PV) (base g cap:Nat) (w:World) (h0:0<Q.length) (hl:Q.length≤1000000) (hQ: ∀ x∈Q,x.2.length≤1000000) (hB:base≤w.heap.size) (hO:PRow w base (.slice (some ⟨g,0,none⟩) Q.length cap) Q):
 Calls prog 81 #[.slice (some ⟨g,0,none⟩) Q.length cap, .func (.func 82) #[] #[]] w fun e w'=>e= .returned (.tuple #[])∧
  ∃ Q':List PV,Q'.Perm Q∧Q'.Pairwise (fun a b=>cmpL a.2 b.2≤0)∧PRow w' base (.slice (some ⟨g,0,none⟩) Q'.length cap) Q'∧Below base w w':=by
 have hI:Inhabited {x:PV//x∈Q}:=⟨⟨Q[0],Yau h0⟩⟩;obtain⟨zs,hzs⟩: ∃ zs:List {x:PV//x∈Q},zs=Q.attach:=⟨_,rfl⟩;obtain⟨enc,henc⟩: ∃ enc:{x:PV//x∈Q}→Value,enc=fun x=>x.1.1:=⟨_,rfl⟩
 have hmap: ∀ l:List {x:PV//x∈Q},l.map enc=(l.map fun x=>x.1).map Prod.fst:=fun l=>by rw[henc,Yeo];rfl
 have hz1:zs.map (fun x=>x.1)=Q:=by rw[hzs];exact List.attach_map_subtype_val _
 have hO2:w.ownsRow base 34 1 (.slice (some ⟨g,0,none⟩) Q.length cap) Q.length (zs.map enc):=by rw[hmap,hz1];exact hO.1
 obtain⟨g',cap',e1,hbg,hgl,-,-,hzl,hH⟩:=Lib.holds_of_ownsRow hO2 (by simp)
 obtain rfl:g=g':=by cases e1;rfl
 obtain⟨cur,hcur⟩: ∃ cur,w.heap[g]?=some (.cells cur 34 (0,0)):=by
  rcases hO2.2 with⟨h',-⟩|⟨g2,c2,cur,h',-,hh,-⟩
  · cases h'
  · injection h' with h1
    injection h1 with h1
    injection h1 with h1
    exact⟨cur,by rw[h1];exact hh⟩
 have hcmp:CmpLays1 prog 82 #[] enc (fun x y=>cmpL x.1.2 y.1.2) g 0 zs.toArray.size w:=fun m os dk _ x y=>by
  have k:=Zyn (enc:=enc) (n:=m) (d:=dk) (os:=os) hcur;have h:=Zasd x.1 y.1 (sortWorld enc w g 0 m dk os) ((hO.2 x.1 x.2).keep k) ((hO.2 y.1 y.2).keep k) (hQ x.1 x.2) (hQ y.1 y.2);rw[henc]at h⊢;refine Calls.mono h ?_;rintro e w' ⟨rfl,rfl⟩;exact⟨rfl,0,#[],by rw[grow_empty];rfl⟩
 have h:=Any.slices_SortFunc Tryz.sortP6 enc (fun x=>by rw[henc];exact(hO.2 x.1 x.2).cell) (fun x y=>cmpL x.1.2 y.1.2) (Zasf.by fun x:{x:PV//x∈Q}=>x.1.2).swo 82 #[] g 0 cap zs.toArray w (enters_of func82 (by kernel_rfl) rfl) hcmp hH hgl (by simp;omega)
 have hs:zs.toArray.size=Q.length:=by simpa using hzl
 rw[hs]at h;refine h.mono ?_;rintro e w' ⟨rfl,d',n,os,hP,hS,rfl⟩;obtain⟨hsz,-,hperm⟩:=hP;rw[hs]at hsz;have e1:d'.extract 0 Q.length=d':=by rw[←hsz];exact Array.extract_size
 have e2:zs.toArray.extract 0 Q.length=zs.toArray:=by rw[←hs];exact Array.extract_size
 rw[e1,e2]at hperm;have hdl:(d'.toList.map fun x=>x.1).length=Q.length:=by rw[Yaz,Yav];exact hsz
 refine⟨rfl,d'.toList.map fun x=>x.1, ?_, ?_,⟨?_,fun y hy=> ?_⟩,Zjp hB hbg⟩
 · have:=hperm.map fun x:{x:PV//x∈Q}=>x.1
   rw[List.toList_toArray,hz1]at this;exact this
 · rw[List.pairwise_map,Yds];intro i j hi hj hij;have hi':i<d'.size:=by simpa using hi
   have hj':j<d'.size:=by simpa using hj
   have h3:=hS i j (Yao _) hij (by omega)
   rw[getElem!_pos d' j hj',getElem!_pos d' i hi']at h3;unfold ltOf at h3;rw[decide_eq_false_iff_not]at h3;have h4: ¬ cmpL d'[j].1.2 d'[i].1.2<0:=h3;have h2:=Zmr d'[j].1.2 d'[i].1.2;have h5:cmpL d'[i].1.2 d'[j].1.2≤0:=by omega
   simpa using h5
 · have hr:=Lib.ownsRow_putRow (q:=n) (k:=Q.length) (ys:=d'.toList) hO2 (by rw[Yav];exact hsz) (Yag _)
   have h3:d'.toList.take Q.length=d'.toList:=Ybk (by rw[Yav];omega)
   rw[h3,hmap]at hr;rw[hdl];have hr2:(putRow enc (Sort.ahead w n) g 0 d').ownsRow base 34 1 (.slice (some ⟨g,0,none⟩) Q.length cap) Q.length ((d'.toList.map fun x=>x.1).map Prod.fst):=by simpa using hr
   exact Zah hr2 (Zlw _ os)
 · obtain⟨z,-,rfl⟩:=Yda.1 hy;exact(hO.2 z.1 z.2).keep (Zyn hcur)
def ddF (l:List ByteArray):List PV→List PV
 | []=> []
 |y::r=>if y.2=l then ddF y.2 r else y::ddF y.2 r
def dd:List PV→List PV
 | []=> []
 |x::r=>x::ddF x.2 r
def lk (l:List ByteArray):List PV→List ByteArray
 | []=>l
 |y::r=>lk y.2 r
theorem Zvc (a:PV): ∀ (L:List PV) (l:List ByteArray),ddF l (L++ [a])=ddF l L++if a.2=lk l L then []else [a]
 | [],l=>by
   show ddF l [a]=_;unfold ddF;unfold lk;split<;>rfl
 | y::r,l=>by
   show ddF l (y::(r++ [a]))=_;unfold ddF lk;split
   · exact Zvc a r y.2
   · rw[Zvc a r y.2];rfl
theorem Zalo: ∀ (L:List PV) (l:List ByteArray) (k:Nat) (h:k<L.length),k+1=L.length→lk l L=L[k].2
 | [],_,_,h,_=>by simp at h
 | [y],l,k,h,e=>by
   obtain rfl:k=0:=by simpa using e
   rfl
 | y::z::r,l,k,h,e=>by
   cases k with
   |zero=>simp at e
   |succ k=>exact Zalo (z::r) y.2 k (by simpa using h) (by simpa using e)
theorem Zajt {Q:List PV} {k:Nat} (h:k+1<Q.length):dd (Q.take (k+2))=dd (Q.take (k+1))++if Q[k+1].2=(Q[k]'(by omega)).2 then []else [Q[k+1]]:=by
 rw[Yaw h];cases Q with
 |nil=>simp at h
 | cons x r=>
   show x::ddF x.2 (r.take k++ [(x::r)[k+1]])=_;rw[Zvc]
   have hl:lk x.2 (r.take k)=(x::r)[k].2:=by
    cases k with
    |zero=>rfl
    | succ k=>
      have hk:k<(r.take (k+1)).length:=by
       rw[Yaf];simp at h;omega
      rw[Zalo (r.take (k+1)) x.2 k hk (by rw[Yaf];simp at h;omega)]
      simp
   rw[hl];rfl
theorem Zaal: ∀ (L:List PV) (l:List ByteArray),(ddF l L).Sublist L
 | [],_=>List.Sublist.refl _
 | y::r,l=>by
   unfold ddF;split
   · exact(Zaal r y.2).cons _
   · exact(Zaal r y.2).cons_cons _
theorem Zatr (L:List PV):(dd L).Sublist L:=by
 cases L with
 |nil=>exact List.Sublist.refl _
 |cons x r=>exact(Zaal r x.2).cons_cons _
theorem Zajs: ∀ (L:List PV) (l:List ByteArray),(∀ y∈L,cmpL l y.2≤0)→L.Pairwise (fun a b=>cmpL a.2 b.2≤0)→(∀ y∈ddF l L,pLt l y.2)∧(ddF l L).Pairwise (fun a b=>pLt a.2 b.2)
 | [],_,_,_=>⟨fun y hy=>(by cases hy),List.Pairwise.nil⟩
 | y ::r,l,h1,h2=>by
   obtain⟨g1,g2⟩:=Ycd.1 h2;obtain⟨i1,i2⟩:=Zajs r y.2 g1 g2;unfold ddF;split
   · rename_i e;exact⟨fun z hz=>by rw[←e];exact i1 z hz,i2⟩
   · rename_i e;have h3:pLt l y.2:=by
      have:=h1 y (Yck ..);rcases Yea this with h|h
      · exact Zip.1 h
      · exact absurd (Zhp.1 h).symm e
     refine⟨fun z hz=> ?_,Ycd.2 ⟨i1,i2⟩⟩
     rcases Yax.1 hz with rfl|hz
     · exact h3
     · exact Zcb h3 (i1 z hz)
theorem Zaak: ∀ (L:List PV) (l:List ByteArray) (y:PV),y∈L→y.2=l∨ ∃ z∈ddF l L,z.2=y.2
 | [],_,_,h=>by cases h
 | x ::r,l,y,h=>by
   unfold ddF;rcases Yax.1 h with rfl|h
   · split
     · rename_i e;exact .inl e
     · exact .inr ⟨y,Yck ..,rfl⟩
   · split
     · rename_i e;rcases Zaak r x.2 y h with h1|h1
       · exact .inl (h1.trans e)
       · exact .inr h1
     · rcases Zaak r x.2 y h with h1|⟨z,hz,h1⟩
       · exact .inr ⟨x,Yck ..,h1.symm⟩
       · exact .inr ⟨z,Ych _ hz,h1⟩
theorem Zaxn {L:List PV} (h:L.Pairwise (fun a b=>cmpL a.2 b.2≤0)):((dd L).map Prod.snd).Pairwise pLt∧ ∀ q,q∈(dd L).map Prod.snd↔q∈L.map Prod.snd:=by
 refine⟨?_,fun q=>⟨fun hq=> ?_,fun hq=> ?_⟩⟩
 · rw[List.pairwise_map];cases L with
   |nil=>exact List.Pairwise.nil
   | cons x r=>
     obtain⟨g1,g2⟩:=Ycd.1 h;obtain⟨i1,i2⟩:=Zajs r x.2 g1 g2;exact Ycd.2 ⟨i1,i2⟩
 · obtain⟨z,hz,rfl⟩:=Yda.1 hq;exact Yda.2 ⟨z,(Zatr L).subset hz,rfl⟩
 · obtain⟨z,hz,rfl⟩:=Yda.1 hq;cases L with
   |nil=>cases hz
   | cons x r=>
     rcases Yax.1 hz with rfl|hz
     · exact Yda.2 ⟨z,Yck ..,rfl⟩
     · rcases Zaak r x.2 z hz with h1|⟨y,hy,h1⟩
       · exact Yda.2 ⟨x,Yck ..,h1.symm⟩
       · exact Yda.2 ⟨y,Ych _ hy,h1⟩
theorem Zave (A A2:Option Addr) (c c2:Nat) (P P2:List ByteArray) (w:World) (hR:Rd w 1 A P.length (sv P)) (hR2:Rd w 1 A2 P2.length (sv P2)) (hl:P.length≤1000000) (hl2:P2.length≤1000000):
 Calls prog 86 #[.slice A P.length c, .slice A2 P2.length c2] w fun e w'=>e= .returned (.bool (decide (P=P2)))∧ ∃ m,w'=w.drewN m:=by
 by_cases h:P.length=P2.length
 · rcases Ybn P.length with h0|h0
   · obtain rfl:P= []:=Yar h0;obtain rfl:P2= []:=Yar h.symm;refine(Tryz.slices_Equal_string_empty A A2 c 0 c2 w (by omega)).mono ?_
     rintro e w' ⟨rfl,rfl⟩;exact⟨rfl,0,rfl⟩
   · obtain⟨b,o,rfl,-,-,-⟩:=hR.strAt h0;obtain⟨b2,o2,rfl,-,-,-⟩:=hR2.strAt (i:=0) (by omega)
     have hg: ∀ {B O:Nat} {L:List ByteArray},Rd w 1 (some ⟨B,O,none⟩) L.length (sv L)→ ∀ j,j<L.length→w.cell? ⟨B,O+j,none⟩=some (.string (L.getD j ByteArray.empty)):=fun hr j hj=>by
      obtain⟨b',o',e,-,-,hx⟩:=hr.strAt hj;cases e;rw[hx,Yaq,Yaj hj];rfl
     have:=Tryz.slices_Equal_string b o P.length c b2 o2 P2.length c2 P P2 w (Yag _) (Yag _) (by omega) (by omega) (hg hR) (hg hR2)
     rw[Ybz,Ybz]at this;exact this
 · refine(Tryz.slices_Equal_string_lens A A2 P.length c P2.length c2 w h).mono ?_;rintro e w' ⟨rfl,rfl⟩;exact⟨by rw[Yah fun e=>h (by rw[e])],0,rfl⟩
theorem Zawg (x y:PV) (w:World) (hx:POwn w x) (hy:POwn w y) (hl:x.2.length≤1000000) (hl2:y.2.length≤1000000):
 Calls prog 85 #[x.1,y.1] w fun e w'=>e= .returned (.bool (decide (x.2=y.2)))∧ ∃ m,w'=w.drewN m:=by
 obtain⟨v,P⟩:=x;obtain⟨v2,P2⟩:=y;have hx':Pr w v P:=hx.pr;have hy':Pr w v2 P2:=hy.pr;obtain⟨A,c,rfl,-,-,hR⟩:=hx';obtain⟨A2,c2,rfl,-,-,hR2⟩:=hy';have HC:=Zhd (Zave A A2 c c2 P P2 w hR hR2 hl hl2);obtain⟨z,hz⟩: ∃ z,decide (P=P2)=z:=⟨_,rfl⟩;try simp only
 try simp only at HC
 rw[hz]at HC⊢;clear hx hy hR hR2 hz;go_enter func85,ntmps85;go_wp2_with fail;refine HC.out.mono ?_;rintro e w' ⟨rfl,m,rfl⟩;go_wp2;go_ret;exact⟨rfl,m,rfl⟩
theorem Zxc (w:World):(zeroValue 34).run prog w= .ok (.slice none 0 0) w:=by
 obtain⟨i0,hii,hz0,hz1,hz2⟩:=info_parts Zhs;simp[zeroValue,typeInfo,hii,hz0]
theorem Zaim (n:Nat):(Builtin.zeroCells (Value.slice none 0 0).cells n).toList.length=n∧ ∀ u∈(Builtin.zeroCells (Value.slice none 0 0).cells n).toList,u.oneCell'=true:=by
 have hz:(Value.slice none 0 0).cells= #[.slice none 0 0]:=rfl;refine⟨by rw[hz,Yav];simp[Builtin.zeroCells],fun u hu=> ?_⟩
 rw[hz]at hu;simp only[Builtin.zeroCells]at hu;simp at hu;obtain⟨q,-,rfl⟩:=hu;have:q%1=0:=Nat.mod_one q;simp[this,Value.oneCell']
theorem Zasb {w:World} {base g n cap k:Nat} {e:TypeId} {xs:List Value} (h:w.ownsRow base e 1 (.slice (some ⟨g,0,none⟩) n cap) n xs) (hk:k≤n):w.ownsRow base e 1 (.slice (some ⟨g,0,none⟩) k cap) k (xs.take k):=by
 obtain⟨h1,h2⟩:=h;refine⟨by rw[Yaf,h1];omega, ?_⟩
 rcases h2 with⟨e0,-⟩|⟨g',cap',cur,e0,hb,hg,hn,hm,hs,ht⟩
 · cases e0
 · injection e0 with e1 _ e3
   subst e3;refine .inr ⟨g',cap,cur,by rw[e1],hb,hg,by omega,hm,hs, ?_⟩
   rw[←ht,Yct];congr 1;omega
theorem set_take {α:Type} (X:List α) (k:Nat) (v:α) (h:k<X.length):(X.set k v).take (k+1)=X.take k++ [v]:=by
 rw[Yaw (by simpa using h),List.take_set,List.set_eq_of_length_le (by rw[Yaf];omega),List.getElem_set_self]
theorem Zdy (g k:Nat) (h:g≠k): ∀ (vs:List Value) (o:Nat) (w:World),(w.setCells g o vs).heap[k]?=w.heap[k]?
 | [],_,_=>rfl
 | v::r,o,w=>by
   rw[World.setCells,Zdy g k h r];exact heap_setCell_other w ⟨g,o,none⟩ k v (fun e=>h e.symm)
theorem Zvx {e:TypeId} {w:World} {g o:Nat} {vs:List Value} {base n cap sz:Nat} {xs:List Value} (ho:w.ownsRow base e sz (.slice (some ⟨g,0,none⟩) n cap) n xs):Zbn e w (w.setCells g o vs):=by
 intro k c T hT hk
 have hne:g≠k:=fun h=>by
  rcases ho.2 with⟨h',-⟩|⟨g',cap',cur,h',-,hh,-⟩
  · cases h'
  · injection h' with h1
    injection h1 with h1
    injection h1 with h1
    rw[←h1,h,hk]at hh;injection hh with hh
    injection hh with h2 h3
    exact hT h3
 rw[Zdy g k hne,hk]
theorem Zqs (A:Option Addr) (n c:Nat) (f:Value) (w:World) (hn:n<2):
 Calls prog 84 #[.slice A n c,f] w fun e w'=>e= .returned (.slice A n c)∧w'=w:=by
 have hI:(n:Int)<2:=by omega
 go_enter func84,ntmps84;go_wp2;go_ret;exact⟨rfl,rfl⟩
theorem Zaai (Q:List PV) (base g cap:Nat) (w:World) (h2:2≤Q.length) (hl:Q.length≤1000000) (hQ: ∀ x∈Q,x.2.length≤1000000) (hcap:Q.length≤cap) (hcm:cap≤maxLen) (hB:base≤w.heap.size) (hO:PRow w base (.slice (some ⟨g,0,none⟩) Q.length cap) Q):
 Calls prog 84 #[.slice (some ⟨g,0,none⟩) Q.length cap, .func (.func 85) #[] #[]] w fun e w'=>e= .returned (.slice (some ⟨g,0,none⟩) (dd Q).length cap)∧PRow w' base (.slice (some ⟨g,0,none⟩) (dd Q).length cap) (dd Q)∧Below base w w':=by
 obtain⟨n,hn⟩: ∃ n,Q.length=n:=⟨_,rfl⟩
 have HE:Hid (∀ W i j (hi:i<Q.length) (hj:j<Q.length),Zbn 34 w W→Calls prog 85 #[Q[i].1,Q[j].1] W fun e w'=>e= .returned (.bool (decide (Q[i].2=Q[j].2)))∧ ∃ m,w'=W.drewN m):=fun W i j hi hj k=>
  Zawg Q[i] Q[j] W ((hO.2 _ (Yau hi)).keep k) ((hO.2 _ (Yau hj)).keep k) (hQ _ (Yau hi)) (hQ _ (Yau hj))
 have HO:=Zhd hO;have hgb:=(hO.1.lt g rfl).1;have hI2: ¬ (n:Int)<2:=by omega
 unfold maxLen at hcm;have hrow:=hO.1;clear hO hQ;rw[hn]at hrow⊢;go_enter func84,ntmps84;go_wp2;go_loopw [5] (fun vk wr=> ∃ k:Nat,1≤k∧k≤n∧vk= .int .i64 k∧Hid (dd (Q.take k)=Q.take k)∧Hid (wr.ownsRow base 34 1 (.slice (some ⟨g,0,none⟩) n cap) n (Q.map Prod.fst))∧Hid (Zbn 34 w wr)∧Hid (Below base w wr)) (fun vk _=>n-(intOf vk).toNat)
 case atStart=>
  refine⟨1,Yag _,by omega,rfl, ?_,hrow,Zbn.refl _ _,Yae _ _⟩
  cases Q with
  |nil=>simp at h2
  |cons x r=>rfl
 case round =>
  clear hrow;obtain⟨k,hk1,hk,rfl,HD,HOw,HKw,HBw⟩:=hrel;by_cases hlt:k<n
  · obtain ⟨p,hp⟩: ∃ p,k=p+1:=⟨k-1,by omega⟩
    subst hp
    have x1:wr.cell? ⟨g,p+1,none⟩=some (Q[p+1]'(by omega)).1:=by
     rw[HOw.out.cellAt (p+1) (by omega),Ycy,Yaj (by omega)];rfl
    have x0:wr.cell? ⟨g,p,none⟩=some (Q[p]'(by omega)).1:=by
     rw[HOw.out.cellAt p (by omega),Ycy,Yaj (by omega)];rfl
    have hst:=Zhd (Zajt (Q:=Q) (k:=p) (by omega))
    have HE1:=Zhd (fun W hk=>HE.out W (p+1) p (by omega) (by omega) hk)
    have hltI:(p:Int)+1<(n:Int):=by omega
    have hpn:(p:Int)<(n:Int):=by omega
    have hp0:(0:Int)≤(p:Int)+1:=by omega
    have hp1:((p:Int)+1).toNat=p+1:=by omega
    have hw1:IntKind.i64.wrap (p:Int)=(p:Int):=by rw[IntKind.wrap_i64];omega
    have hKq:Hid (∀ m,Zbn 34 w (wr.drewN m)):=fun m=>HKw.out.below (Zan (Yae _ _) _)
    by_cases heq:Q[p+1].2=(Q[p]'(by omega)).2
    · rw [Yan heq,Ybg]at hst;rw[Yal heq]at HE1;have HD2:Hid (dd (Q.take (p+2))=Q.take (p+1)):=by show _=_;rw[hst.out,HD.out]
      clear HD hst heq;have HQp:Hid ((Q.map Prod.fst).take (p+1)=(dd (Q.take (p+2))).map Prod.fst):=by show _=_;rw[HD2.out,List.map_take]
      have hkl:(dd (Q.take (p+2))).length=p+1:=by rw[HD2.out,Yaf];omega
      go_wp2_with fail;go_quiet ((go_at_call 85;exact Calls.quiet_of (HE1.out _ (hKq.out _))));have hKr:=hKq.out nq;have hBr:Below base w (wr.drewN nq):=Zan HBw.out _;have HOr:=Zhd (Zhy HOw.out nq);generalize wr.drewN nq=wq at *;have HKr:=Zhd hKr;have HBr:=Zhd hBr;clear hKr hBr hKq HE1 x1 x0;go_wp2;go_loopw [5,7] (fun vk v2 wr=> ∃ (k k2:Nat) (X:List Value),vk= .int .i64 k∧v2= .int .i64 k2∧1≤k2∧p+1+k2≤n∧k≤p+k2∧Hid ((dd (Q.take (p+1+k2))).length=k)∧X.length=n∧Hid (X.take k=(dd (Q.take (p+1+k2))).map Prod.fst)∧Hid (∀ j,p+k2≤j→X[j]?=(Q.map Prod.fst)[j]?)∧Hid (wr.ownsRow base 34 1 (.slice (some ⟨g,0,none⟩) n cap) n X)∧Hid (Zbn 34 w wr)∧Hid (Below base w wr)) (fun _ v2 _=>n-(intOf v2).toNat)
      case atStart=>exact⟨p+1,1,Q.map Prod.fst,rfl,rfl,Yag _,by omega,by omega,hkl,by rw[Yaz];exact hn,HQp.out,fun _ _=>rfl,HOr.out,HKr.out,HBr.out⟩
      case round=>
       clear HKr HBr HOr HQp hkl HD2;obtain⟨k,k2,X,rfl,rfl,hk2,hkn,hkk,HL,hXl,HT,HJ,HOx,HK,HBx⟩:=hrel;by_cases hlt2:p+1+k2<n
       · have y1:wr.cell? ⟨g,p+1+k2,none⟩=some (Q[p+1+k2]'(by omega)).1:=by
          rw[HOx.out.cellAt (p+1+k2) (by omega),HJ.out _ (by omega),Ycy,Yaj (by omega)];rfl
         have y0:wr.cell? ⟨g,p+k2,none⟩=some (Q[p+k2]'(by omega)).1:=by
          rw[HOx.out.cellAt (p+k2) (by omega),HJ.out _ (by omega),Ycy,Yaj (by omega)];rfl
         obtain⟨j,hj⟩: ∃ j,k2=j+1:=⟨k2-1,by omega⟩
         subst hj
         have hst:=Zhd (show dd (Q.take (p+1+(j+1+1)))=dd (Q.take (p+1+(j+1)))++if(Q[p+1+(j+1)]'(by omega)).2=(Q[p+(j+1)]'(by omega)).2 then []else [Q[p+1+(j+1)]'(by omega)]from by
          have:=Zajt (Q:=Q) (k:=p+(j+1)) (by omega)
          have e1:p+(j+1)+1=p+1+(j+1):=by omega
          have e2:p+(j+1)+2=p+1+(j+1+1):=by omega
          simp only[e1,e2]at this;exact this)
         have HE2:=Zhd (fun W hk=>HE.out W (p+1+(j+1)) (p+(j+1)) (by omega) (by omega) hk)
         have hKq:Hid (∀ m,Zbn 34 w (wr.drewN m)):=fun m=>HK.out.below (Zan (Yae _ _) _)
         have y0':wr.cell? ⟨g,p+1+j,none⟩=some (Q[p+(j+1)]'(by omega)).1:=by rw[show p+1+j=p+(j+1) by omega];exact y0
         have f1:(j:Int)+1<((n-(p+1):Nat):Int):=by omega
         have f2:(j:Int)<((n-(p+1):Nat):Int):=by omega
         have f3:(0:Int)≤(j:Int)+1:=by omega
         have f4:((j:Int)+1).toNat=j+1:=by omega
         have f5:IntKind.i64.wrap (j:Int)=j:=by rw[IntKind.wrap_i64];omega
         by_cases heq2:(Q[p+1+(j+1)]'(by omega)).2=(Q[p+(j+1)]'(by omega)).2
         · rw[Yan heq2,Ybg]at hst;rw[Yal heq2]at HE2;have HL2:Hid ((dd (Q.take (p+1+(j+1+1)))).length=k):=by show _=_;rw[hst.out];exact HL.out
           have HT2:Hid (X.take k=(dd (Q.take (p+1+(j+1+1)))).map Prod.fst):=by show _=_;rw[hst.out];exact HT.out
           clear HL HT hst heq2 y0;go_wp2_with fail;go_quiet ((go_at_call 85;exact Calls.quiet_of (HE2.out _ (hKq.out _))));go_wp2;go_roundw
           case rel=>exact⟨k,j+1+1,X,rfl,by go_num,by omega,by omega,by omega,HL2,hXl,HT2,fun i hi=>HJ.out i (by omega),Zhy HOx.out _,hKq.out _,Zan HBx.out _⟩
           case measure=>simp[intOf];omega
         · rw[Yad heq2]at hst;rw[Yah heq2]at HE2;obtain⟨Ae,ce,hve,-,-,-⟩:=Zbe (HO.out.2 _ (Yau (show p+1+(j+1)<Q.length by omega)))
           have HL2:Hid ((dd (Q.take (p+1+(j+1+1)))).length=k+1):=by show _=_;rw[hst.out,Yak,HL.out];rfl
           have HT2:Hid ((X.set k (Q[p+1+(j+1)]'(by omega)).1).take (k+1)=(dd (Q.take (p+1+(j+1+1)))).map Prod.fst):=by
            show _=_;rw[hst.out,Ybu,←HT.out,set_take X k _ (by omega)];rfl
           have HJ2:Hid (∀ i,p+(j+1+1)≤i→(X.set k (Q[p+1+(j+1)]'(by omega)).1)[i]?=(Q.map Prod.fst)[i]?):=fun i hi=>by
            rw[List.getElem?_set_ne (by omega)];exact HJ.out i (by omega)
           have z1: ∀ m,(wr.drewN m).cell? ⟨g,k,none⟩=some (X[k]'(by omega)):=fun m=>by
            show wr.cell? _=_;rw[HOx.out.cellAt k (by omega),Yaj (by omega)]
           have z2: ∀ m,(wr.drewN m).frozen? ⟨g,k,none⟩=false:=fun m=>HOx.out.frozenAt _
           have hst2:=Zhd (fun m=>(Zhy HOx.out m).stored k (Q[p+1+(j+1)]'(by omega)).1)
           have hKs:Hid (∀ m,Zbn 34 w ((wr.drewN m).setCell ⟨g,k,none⟩ (Q[p+1+(j+1)]'(by omega)).1)):=fun m=>(hKq.out m).trans (Zbn.grown (Zhy HOx.out m) (hst2.out m).2)
           have hBs:Hid (∀ m,Below base w ((wr.drewN m).setCell ⟨g,k,none⟩ (Q[p+1+(j+1)]'(by omega)).1)):=fun m=>(Zan HBx.out m).setCell (p:=⟨g,k,none⟩) hgb _
           have hXl2:(X.set k (Q[p+1+(j+1)]'(by omega)).1).length=n:=by rw[Ycm];exact hXl
           have f6:(k:Int)<(n:Int):=by omega
           rw[hve]at y1 HE2 HT2 HJ2 hst2 hKs hBs hXl2;generalize (Q[p+1+(j+1)]'(by omega)).2.length=ne at *
           clear HL HT hst heq2 y0 hve;go_wp2_with fail;go_quiet ((go_at_call 85;exact Calls.quiet_of (HE2.out _ (hKq.out _))));have z1':=z1 nq;have z2':=z2 nq;clear z1 z2;go_wp2;go_roundw
           case rel=>exact⟨k+1,j+1+1,_,by go_num,by go_num,by omega,by omega,by omega,HL2,hXl2,HT2,HJ2,(hst2.out _).1,hKs.out _,hBs.out _⟩
           case measure=>simp[intOf];omega
       · have hke:p+1+k2=n:=by omega
         have hQt:Q.take (p+1+k2)=Q:=by rw[hke,←hn,Ybz]
         rw[hQt]at HL HT;have hkn2:k<n:=by omega
         have hzl:=Zaim (n-k);obtain⟨zs,hzs⟩: ∃ zs,(Builtin.zeroCells (Value.slice none 0 0).cells (n-k)).toList=zs:=⟨_,rfl⟩;obtain⟨w9,hw9⟩: ∃ w9,wr.setCells g k zs=w9:=⟨_,rfl⟩
         have hcl: ∀ ty,(Builtin.clear_ #[71] ty #[.slice (some ⟨g,k,none⟩) (n-k) (cap-k)]).run prog wr= .ok (.tuple #[]) w9:=fun ty=>by
          rw[←hw9,←hzs];refine Zkk wr 71 34 ty _ underlying71 Zxc g k (n-k) (cap-k) (by omega) (fun i hi=> ?_) (fun i hi=>HOx.out.frozenAt _) hzl.2
          rw[hzl.1]at hi;rw[HOx.out.cellAt (k+i) (by omega),Yaj (by omega)];rfl
         rw[hzs]at hzl;have hO9:=Zkf zs (X.drop k) (X.take k) [] wr (by rw[hzl.1,Yam,hXl]) (by rw[Ybg,Ybh];exact HOx.out)
         rw[Yaf,Ybb (by omega),Ybg,hw9]at hO9
         have hO10:=Zasb hO9 (k:=k) (by omega)
         rw[Ycf (by rw[Yaf];omega),Yct,Nat.min_self,HT.out]at hO10
         have HO9:=Zhd hO10
         have HK9:Hid (Zbn 34 w w9):=by
          show Zbn _ _ _;rw[←hw9];exact HK.out.trans (Zvx HOx.out)
         have HB9:Hid (Below base w w9):=by
          show Below _ _ _;rw[←hw9];exact Zak hgb _ _ HBx.out
         have f6:(k:Int)≤(n:Int):=by omega
         have f7:(n:Int)-(k:Int)=((n-k:Nat):Int):=by omega
         have f8:(cap:Int)-(k:Int)=((cap-k:Nat):Int):=by omega
         have f9: ¬ (cap=k):=by omega
         have f10: ¬ (k=cap):=by omega
         have f11: ¬ ((k2:Int)<((n-(p+1):Nat):Int)):=by omega
         have f12:(k:Int)≤(cap:Int):=by omega
         clear hzl hzs hw9 hO9 hO10 HT HOx HK HBx hQt;go_wp2;go_ret;rw[HL.out];exact⟨rfl,⟨by rw[HL.out];exact HO9.out,fun x hx=>(HO.out.2 x ((Zatr Q).subset hx)).keep HK9.out⟩,HB9.out⟩
    · rw[Yad heq]at hst;rw[Yah heq]at HE1
      have HD2:Hid (dd (Q.take (p+1+1))=Q.take (p+1+1)):=by
       show _=_;rw[hst.out,HD.out,←Yaw]
      clear HD hst heq;go_wp2_with fail;go_quiet ((go_at_call 85;exact Calls.quiet_of (HE1.out _ (hKq.out _))));go_wp2;go_roundw
      case rel=>exact⟨p+1+1,by omega,by omega,by go_num,HD2,Zhy HOw.out _,hKq.out _,Zan HBw.out _⟩
      case measure=>simp[intOf];omega
  · have hke:k=n:=by omega
    subst hke;have hdq:dd Q=Q:=by
     have:=HD.out
     rwa [←hn,Ybz]at this
    have HDq:=Zhd hdq;clear hdq;go_wp2;go_ret;rw[HDq.out,hn];exact⟨rfl,⟨by rw[hn];exact HOw.out,fun x hx=>(HO.out.2 x hx).keep HKw.out⟩,HBw.out⟩
end Go.Proofs.Zq
