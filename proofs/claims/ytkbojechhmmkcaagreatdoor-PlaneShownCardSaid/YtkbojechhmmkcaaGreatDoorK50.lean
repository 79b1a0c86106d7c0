import Derived.Test.YtkbojechhmmkcaaGreatDoorK48
import Derived.Test.YtkbojechhmmkcaaGreatDoorK49
set_option linter.unusedVariables false
set_option linter.unusedSimpArgs false
set_option maxHeartbeats 4000000
set_option maxRecDepth 100000
namespace Prs
open Go Go.Lib Go.Sort Go.Proofs Tre Lx Sch Edt
def Zyg (d:Nat) (m:Int) (s:List UInt8) (op:Bool):List UInt8:=
 Zbi d++((if m%2=1 then Zaw++ [32]else [])++((if 1<m then Zbk++ [32]else [])++(Zdi s++if op then [32,123,10]else [59,10])))
theorem Zaoh {d:Nat} {m:Int} (hm:0≤m∧m≤3) (s:List UInt8) (op:Bool):flat (Zre d m s op)=Zyg d m s op:=by
 have hc:m=0∨m=1∨m=2∨m=3:=by omega
 unfold Zre Zyg;rcases hc with rfl|rfl|rfl|rfl<;>cases op<;>simp[flat,Sg.text]
def Zhy (d:Nat) (k:Nat):List UInt8:=flat (Zjt d k)
theorem Znm: ∀ (k d:Nat),Zhy d (k+1)=Zhy d k++(Zbi (d-(k+1))++ [125,10])
 |0,d=>by simp[Zhy,Zjt,flat,Sg.text]
 | k+1,d=>by
   have h:=Znm k (d-1);have e1:Zhy d (k+1+1)=Zbi (d-1)++([125]++([10]++Zhy (d-1) (k+1))):=rfl;have e2:Zhy d (k+1)=Zbi (d-1)++([125]++([10]++Zhy (d-1) k)):=rfl;rw[e1,h,e2,show d-1-(k+1)=d-(k+1+1) by omega]
   simp
def Zjo (L:List Line) (i:Nat):List UInt8:=flat (Zwy L i)
theorem Zalu (L:List Line):Zjo L 0= []:=rfl
section
variable {L:List Line} (hr:Zab L=true)
include hr
theorem Zwz {i:Nat} (hi:i<L.length):Zjo L (i+1)=(Zjo L i++Zyg (depN L i) L[i].mark L[i].word.data.toList (decide (depN L i<depN L (i+1))))++Zhy (depN L i) (depN L i-depN L (i+1)):=by
 unfold Zjo;rw[Zasu,Zyb];unfold Ziz;have hm:=Lns.sound_mark (Zcy (Zac hr).2.1 i hi).1;rw[Zyb,Zcd hi,Zaoh ⟨hm.1,hm.2.1⟩,Ybc];rfl
end
end Prs
namespace Go.Proofs.Zq
open Tryz
open Go Go.RowKit Go.Sort Tre Lx Prs Lns Edt Sch
theorem Zbae (a b:List UInt8):(⟨a.toArray⟩:ByteArray)++⟨b.toArray⟩=⟨(a++b).toArray⟩:=by
 apply ByteArray.ext;rw[ByteArray.data_append];simp
theorem Zhw {S:ByteArray} {a:List UInt8} (h:S=⟨a.toArray⟩) (b:List UInt8):S++⟨b.toArray⟩=⟨(a++b).toArray⟩:=by rw[h];exact Zbae a b
theorem Zil {S:ByteArray} {a:List UInt8} (h:S=⟨a.toArray⟩):S.size=a.length:=by rw[h];exact Yds
theorem Zfw (n:Nat):(Zbi n).length=2*n:=List.length_replicate
theorem Zaai (k:Nat):Zbi k++ [32,32]=Zbi (k+1):=by
 unfold Zbi;rw[show 2*(k+1)=2*k+1+1 by omega,List.replicate_succ',List.replicate_succ'];simp
theorem Zafa (n:Nat) (w:World) (hn:n≤1000):Calls prog 41 #[.int .i64 (n:Int)] w fun e w'=>e= .returned (.string ⟨(Zbi n).toArray⟩)∧w'=w:=by
 go_enter func41,ntmps41;go_wp2_with fail;go_loopw [3,4] (fun vs vi wr=> ∃ k:Nat,k≤n∧vi= .int .i64 k∧wr=w∧ ∃ S:ByteArray,vs= .string S∧Hid (S=⟨(Zbi k).toArray⟩)∧S.size≤4000) (fun _ vi _=>n-(intOf vi).toNat)
 case atStart=>exact⟨0,Yas _,rfl,rfl,_,rfl,rfl,Yas _⟩
 case round=>
  obtain⟨k,hk,rfl,rfl,S,rfl,HS,hz⟩:=hrel;by_cases hlt:k<n
  · have hkI:(k:Int)<(n:Int):=by omega
    have HN:Hid (S++⟨#[32,32]⟩=⟨(Zbi (k+1)).toArray⟩):=by
     show _=_;rw[HS.out,←Zaai];exact Zbae _ [32,32]
    have hz2:Hid ((S++⟨#[32,32]⟩).size≤4000):=by
     show _≤_;rw[HN.out];show(Zbi (k+1)).toArray.size≤4000;rw[Yds,Zfw];omega
    clear HS;go_wp2_with fail;go_roundw
    case rel=>exact⟨k+1,by omega,by go_num,trivial,_,rfl,HN,hz2.out⟩
    case measure=>simp[intOf];omega
  · obtain rfl:k=n:=by omega
    go_wp2_with fail;go_ret;exact⟨by rw[HS.out];rfl,rfl⟩
theorem Zyh {d:Nat} {m:Int} {s:List UInt8} {op:Bool} (hd:d≤15) (hs:s.length≤40):(Zyg d m s op).length≤300:=by
 have h1:(Zdi s).length≤170:=by
  cases h:Zep s with
  |true=>rw[Zua h];omega
  | false=>
    rw[Zacd h,Yae,Ybz];have:=Zon s s.length;omega
 unfold Zyg;simp only[Yae,Zfw];have h2:(if m%2=1 then Zaw++ [32]else([]:List UInt8)).length≤10:=by split<;>simp[Zaw]
 have h3:(if 1<m then Zbk++ [32]else([]:List UInt8)).length≤10:=by split<;>simp[Zbk]
 have h4:(if op=true then([32,123,10]:List UInt8)else [59,10]).length≤3:=by split<;>simp
 omega
theorem Zss: ∀ (k d:Nat),d≤15→(Zhy d k).length≤32*k
 |0,d,_=>by simp[Zhy,Zjt,flat]
 | k+1,d,hd=>by
   have:=Zss k d hd;rw[Znm,Yae,Yae,Zfw];show _+(_+2)≤_;omega
section
variable {L:List Line} (hr:Zab L=true)
include hr
theorem Zuw: ∀ (i:Nat),i≤L.length→(Zjo L i).length≤1000*i
 |0,_=>by rw[Zalu];simp
 | i+1,hi=>by
   have h1:=Zuw i (by omega)
   have h2:=Zdf hr (show i<L.length by omega)
   have h3:=(Lns.sound_mark (Zcy (Zac hr).2.1 i (by omega)).1).2.2
   rw[Zwz hr (by omega),Yae,Yae]
   have h4:=Zyh (d:=depN L i) (m:=L[i].mark) (s:=L[i].word.data.toList) (op:=decide (depN L i<depN L (i+1))) (by omega) (by rw[Yau];exact h3)
   have h5:=Zss (depN L i-depN L (i+1)) (depN L i) (by omega)
   omega
theorem Zawh {i k d:Nat} (hi:i<L.length) (hk:k<i) (hkd:Zaj L k≤(d:Int)) (hin: ∀ j,k<j→j≤i→(d:Int)<Zaj L j):endB L k=i+1↔depN L (i+1)≤d:=by
 have hd0:Zaj L k=(d:Int):=by
  have h1:=hin (k+1) (by omega) (by omega)
  have h2:=Zoj hr k;have h3:=(Zdf hr (show k<L.length by omega)).2.2
  have h4:=(Zdf hr (show k+1<L.length by omega)).2.2
  omega
 have hb:=Zbb L k (by omega)
 have hge:i+1≤endB L k:=by
  rcases Ybp (endB L k) (i+1)with h|h
  · have h1:=Zli (L:=L) (i:=k) (by omega) (by omega)
    have h2:=hin (endB L k) (by omega) (by omega)
    omega
  · exact h
 constructor
 · intro h;by_cases hl:i+1<L.length
   · have h1:=Zli (L:=L) (i:=k) (by omega) (by omega)
     rw[h]at h1;have h4:=(Zdf hr hl).2.2;omega
   · unfold depN;rw[Yab hl];exact Yas _
 · intro h;rcases Ybp (i+1) (endB L k)with h1|h1
   · have h2:=Zra (L:=L) (i:=k) (k:=i+1) (by omega) (by omega) h1
     have h4:=(Zdf hr (show i+1<L.length by omega)).2.2
     omega
   · omega
theorem end_open {i:Nat} (hi:i<L.length):i+1<endB L i↔depN L i<depN L (i+1):=by
 have hb:=Zbb L i hi;have h3:=(Zdf hr hi).2.2;constructor
 · intro h;have h1:=Zra hi (Nat.lt_succ_self i) h;have h4:=(Zdf hr (show i+1<L.length by omega)).2.2
   rw[Nat.succ_eq_add_one]at h1;omega
 · intro h;have hl:i+1<L.length:=by
    rcases Ybp (i+1) L.length with h1|h1
    · exact h1
    · have:depN L (i+1)=0:=by unfold depN;rw[Yab (by omega)]
      omega
   have h4:=(Zdf hr hl).2.2;rcases Ybp (i+1) (endB L i)with h1|h1
   · exact h1
   · have h2:=Zli hi (by omega)
     rw[show endB L i=i+1 by omega]at h2
     omega
end
theorem Zarm (A:Option Addr) (cap:Nat) (L:List Line) (w:World) (hR:Rd w 3 A L.length (lines L)) (hcap:L.length≤cap) (hc:cap≤maxLen) (hr:Zab L=true):
 Calls prog 26 #[.slice A L.length cap] w fun e w'=>e= .returned (.string ⟨(Ziq L).toArray⟩)∧Below w.heap.size w w':=by
 have HRb:=Zhd (fun(W:World) (hb:Below w.heap.size w W)=>hR.below hb)
 have h200:=(Zac hr).1;have HR:=Zhd hr;have HC:=Zhd hc;have hci:(cap:Int)≤9223372036854775807:=by unfold maxLen at hc;omega
 have HE:=Zhd (fun(W:World) (hb:Below w.heap.size w W) (n:Nat) (hn:n<L.length)=>Zacg A cap L n W (hR.below hb) hcap hc hn)
 have HBL:=Zhd (fun n hn W=>Zafa n W hn)
 have HQ:=Zhd (fun s hs W=>Zali s W hs)
 clear hR hc;go_enter func26,ntmps26;go_wp2_with fail;go_loopw [3,4] (fun vs vi wr=> ∃ i:Nat,i≤L.length∧vi= .int .i64 i∧Hid (Below w.heap.size w wr)∧ ∃ S:ByteArray,vs= .string S∧Hid (S=⟨(Zjo L i).toArray⟩)) (fun _ vi _=>L.length-(intOf vi).toNat)
 case atStart=>exact⟨0,Yas _,rfl,Yag _ _,_,rfl,rfl⟩
 case round =>
  obtain⟨i,hi,rfl,HB,S,rfl,HS⟩:=hrel;by_cases hlt:i<L.length
  · have hkI :(i:Int)<(L.length:Int):=by omega
    obtain⟨B,O,rfl,hab,hadd,x0,x1,x2⟩:=(HRb.out wr HB.out).line hlt;have hsnd:=Lns.sound_mark (Zcy (Zac hr).2.1 i hlt).1;obtain⟨-,hd15,hdd⟩:=Zdf hr hlt;have hdd':=hdd;rw[Zaq hlt]at hdd;have HRr:=Zhd hr;have HST:=Zhd (Zwz hr hlt);have hz0:=Zil HS.out;have hz1:=Zuw hr i hi;have HOP:=Zhd (end_open hr hlt);have HEH:=Zhd (fun k d=>Zawh hr (i:=i) (k:=k) (d:=d) hlt)
    obtain⟨wd,hwd⟩: ∃ x,L[i].word=x:=⟨_,rfl⟩;obtain⟨m,hm⟩: ∃ x,L[i].mark=x:=⟨_,rfl⟩;obtain⟨d,hd⟩: ∃ x,depN L i=x:=⟨_,rfl⟩;rw[hwd,hm,hd]at HST;rw[hd]at hdd hd15 HOP hdd';rw[hdd]at x0;rw[hwd]at x1;rw[hm]at x2;rw[hm,hwd]at hsnd;obtain⟨hm0,hm3,hw40⟩:=hsnd;have hwz:wd.size≤1000:=Yat hw40 (by decide)
    have hq:=Zil (S:=⟨(Zdi wd.data.toList).toArray⟩) rfl
    have hqz:(Zdi wd.data.toList).length≤300:=by
     have:=Zyh (d:=0) (m:=0) (s:=wd.data.toList) (op:=false) (Yas _) (by rw[Yau];exact hw40)
     unfold Zyg at this;rw[Yae,Yab (by decide),Yab (by decide)]at this
     simp at this;omega
    obtain⟨wl,hwl⟩: ∃ x,wr.alloc (.cells #[.int .i64 (d:Int), .string wd, .int .i64 m] 62)=x:=⟨_,rfl⟩;have hbl:Below wr.heap.size wr wl:=by rw[←hwl];exact(Yag _ _).alloc (Yaf _) _
    have Bl0:Bl wl wr.heap.size #[.int .i64 (d:Int), .string wd, .int .i64 m] 62:=by rw[←hwl];exact Bl.new _ _ _
    have l0:wl.cell? ⟨wr.heap.size,0,none⟩=some (.int .i64 (d:Int)):=(Bl0.cell _).trans rfl;have l1:wl.cell? ⟨wr.heap.size,1,none⟩=some (.string wd):=(Bl0.cell _).trans rfl;have l2:wl.cell? ⟨wr.heap.size,2,none⟩=some (.int .i64 m):=(Bl0.cell _).trans rfl;have HBw:=Zhd (Zaa HB.out hbl);obtain⟨S1,hS1⟩: ∃ x,S++⟨(Zbi d).toArray⟩=x:=⟨_,rfl⟩;have HS1:Hid (S1=⟨(Zjo L i++Zbi d).toArray⟩):=by show _=_;rw[←hS1];exact Zhw HS.out _
    have hz2:=Zil HS1.out;have hbn:=Zfw d;rw[Yae]at hz2;have hz2':S1.size≤200100:=by omega
    clear hz2;have HB0:=Zhd (HBL.out d (by omega) wl)
    clear hr HS hbl HB hwd hm hd hdd hab hadd HR;go_upto_if 26 with(go_at_call 41;refine HB0.out.mono ?_;rintro e w' ⟨rfl,hw'⟩;obtain rfl:=hw'.symm)
    clear hS1 hwl HB0;go_cut [3] (fun v wx=> ∃ S2,v= .string S2∧Hid (S2=⟨(Zjo L i++(Zbi d++if m%2=1 then Zaw++ [32]else [])).toArray⟩)∧wl=wx)
    case first=>
     by_cases h:m=1∨m=3
     · have HS2:=Zhd (Zhw HS1.out (Zaw++ [32]));rw[show Zjo L i++Zbi d++(Zaw++ [32])=Zjo L i++(Zbi d++if m%2=1 then Zaw++ [32]else []) by rw[Yam (by omega),Ybc]]at HS2
       clear HS1 HST;rcases h with rfl|rfl
       all_goals
        go_wp2_with fail;go_meet;exact⟨_,rfl,HS2,rfl⟩
     · have HS2:Hid (S1=⟨(Zjo L i++(Zbi d++if m%2=1 then Zaw++ [32]else [])).toArray⟩):=by
        show _=_;rw[Yab (by omega),Ybg];exact HS1.out
       have h2:m=0∨m=2:=by omega
       clear HS1 HST h;rcases h2 with rfl|rfl
       all_goals
        go_wp2_with fail;go_meet;exact⟨_,rfl,HS2,rfl⟩
    case rest=>
    obtain⟨S2,rfl,HS2,rfl⟩:=hcut;have hz3:=Zil HS2.out
    have hl3:(Zbi d++if m%2=1 then Zaw++ [32]else []).length≤50:=by
     rw[Yae,hbn];split<;>simp[Zaw]<;>omega
    rw[Yae]at hz3;have hz3':S2.size≤200200:=by omega
    clear hz2' hbn hz3;go_upto_if 31 with fail
    go_cut [3] (fun v wx=> ∃ S3,v= .string S3∧Hid (S3=⟨(Zjo L i++(Zbi d++(if m%2=1 then Zaw++ [32]else [])++if 1<m then Zbk++ [32]else [])).toArray⟩)∧wl=wx)
    case first=>
     by_cases h:m=2∨m=3
     · have HS3:=Zhd (Zhw HS2.out (Zbk++ [32]));rw[show Zjo L i++(Zbi d++if m%2=1 then Zaw++ [32]else [])++(Zbk++ [32])=Zjo L i++(Zbi d++(if m%2=1 then Zaw++ [32]else [])++if 1<m then Zbk++ [32]else []) by rw[Yam (show 1<m by omega),Ybc]]at HS3
       clear HS2 HST;rcases h with rfl|rfl
       all_goals
        go_wp2_with fail;go_meet;exact⟨_,rfl,HS3,rfl⟩
     · have HS3:Hid (S2=⟨(Zjo L i++(Zbi d++(if m%2=1 then Zaw++ [32]else [])++if 1<m then Zbk++ [32]else [])).toArray⟩):=by
        show _=_;rw[Yab (show ¬ 1<m by omega),Ybg];exact HS2.out
       have h2:m=0∨m=1:=by omega
       clear HS2 HST h;rcases h2 with rfl|rfl
       all_goals
        go_wp2_with fail;go_meet;exact⟨_,rfl,HS3,rfl⟩
    case rest=>
    obtain⟨S3,rfl,HS3,rfl⟩:=hcut;have hz4:=Zil HS3.out
    have hl4:(Zbi d++(if m%2=1 then Zaw++ [32]else [])++if 1<m then Zbk++ [32]else []).length≤70:=by
     rw[Yae];have:(if 1<m then Zbk++ [32]else([]:List UInt8)).length≤10:=by split<;>simp[Zbk]
     omega
    rw[Yae]at hz4;have hz4':S3.size≤200300:=by omega
    clear HS2 hz3' hl3 hz4;obtain⟨S4,hS4⟩: ∃ x,S3++⟨(Zdi wd.data.toList).toArray⟩=x:=⟨_,rfl⟩;have HS4:=Zhd (Zhw HS3.out (Zdi wd.data.toList));rw[hS4]at HS4;have hz5:=Zil HS4.out;rw[Yae,Yae]at hz5;have hz5':S4.size≤210000:=by omega
    clear hz5 hl4;have HQ1:=Zhd (HQ.out wd hwz wl);clear HS3;go_upto_region 12 with(go_at_call 42;refine HQ1.out.mono ?_;rintro e w5 ⟨rfl,hb5⟩)
    have HB5:=Zhd (Zaa HBw.out hb5);have Bl5:=Bl0.below hb5;clear hS4 HQ1 hb5 Bl0 l0 l1 l2 HBw hz4';have HE1:=Zhd (HE.out w5 HB5.out i hlt);obtain⟨N,hN⟩: ∃ x,depN L (i+1)=x:=⟨_,rfl⟩;rw[hN]at HST HOP HEH;clear hN;go_upto_if 44 with(go_at_call 43;refine HE1.out.mono ?_;rintro e w6 ⟨rfl,hb6⟩)
    have HB6:=Zhd (Zaa HB5.out hb6);have l6:w6.cell? ⟨wr.heap.size,0,none⟩=some (.int .i64 (d:Int)):=((Bl5.below hb6).cell _).trans rfl;clear Bl5 HE1 hb6 HB5;generalize endB L i=en at *;obtain⟨T5,hT5⟩: ∃ x,Zjo L i++Zyg d m wd.data.toList (decide (d<N))=x:=⟨_,rfl⟩;go_cut [3] (fun v wx=> ∃ S5,v= .string S5∧Hid (S5=⟨T5.toArray⟩)∧w6=wx)
    case first=>
     by_cases h:i+1<en
     · have HS5:=Zhd (Zhw HS4.out [32,123,10]);rw[show Zjo L i++(Zbi d++(if m%2=1 then Zaw++ [32]else [])++if 1<m then Zbk++ [32]else [])++Zdi wd.data.toList++ [32,123,10]=T5 by rw[←hT5,Yal (HOP.out.1 h)];unfold Zyg;rw[Yam rfl];simp only[Ybc]]at HS5
       have hI:((i:Int)+1)<(en:Int):=by omega
       clear HS4 HST HOP h hT5;go_wp2_with fail;go_meet;exact⟨_,rfl,HS5,rfl⟩
     · have HS5:=Zhd (Zhw HS4.out [59,10]);rw[show Zjo L i++(Zbi d++(if m%2=1 then Zaw++ [32]else [])++if 1<m then Zbk++ [32]else [])++Zdi wd.data.toList++ [59,10]=T5 by rw[←hT5,Yai (fun g=>h (HOP.out.2 g))];unfold Zyg;rw[Yab Bool.false_ne_true];simp only[Ybc]]at HS5
       have hI: ¬ ((i:Int)+1)<(en:Int):=by omega
       clear HS4 HST HOP h hT5;go_wp2_with fail;go_meet;exact⟨_,rfl,HS5,rfl⟩
    case rest=>
    obtain⟨S5,rfl,HS5,rfl⟩:=hcut;rw[hT5]at HST;have hT5l:T5.length≤210000:=by
     rw[←hT5,Yae];have:=Zyh (d:=d) (m:=m) (s:=wd.data.toList) (op:=decide (d<N)) (by omega) (by rw[Yau];exact hw40)
     omega
    clear HS4 hT5 hz5' HOP hq hqz hz0 hz1;go_upto_region 16 with fail
    have hz5:=Zil HS5.out;have HRw:=Zhd (fun(W:World) (hb:Below w.heap.size w W) (k:Nat) (hk:k<L.length)=>(HRb.out W hb).line hk)
    have HD:=Zhd (fun k (hk:k<L.length)=>Zaq hk)
    have hDi:Zaj L i=(d:Int):=hdd';have hD0:Zaj L 0=0:=Tre.dep_zero (Zac HRr.out).2.1 (by omega)
    have HSi:=Zhd hDi;have HS0:=Zhd hD0;clear hDi hD0 l6 hdd';go_loopw [3,6] (fun vs vd wx=> ∃ (r:Nat) (z:Int),r≤d∧vd= .int .i64 z∧Hid (z=(r:Int)-1)∧Hid (Below w.heap.size w wx)∧ ∃ S6:ByteArray,vs= .string S6∧Hid (S6=⟨(T5++Zhy d (min (d-r) (d-N))).toArray⟩)) (fun _ vd _=>(intOf vd+1).toNat)
    case atStart=>exact⟨d,(d:Int)-1,Yaf _,rfl,rfl,HB6,_,rfl,by show _=_;rw[HS5.out,Yel,Nat.zero_min];show _=(⟨(T5++ []).toArray⟩:ByteArray);rw[Ybg]⟩
    case round=>
     clear HS5 hz5;obtain⟨r,z,hr,rfl,HZ,HB7,S6,rfl,HS6⟩:=hrel;have hSz:S6.size≤220000:=by
      rw[Zil HS6.out,Yae];have:=Zss (min (d-r) (d-N)) d (by omega)
      omega
     have hr0:(z= -1∧r=0)∨ ∃ q:Nat,z=(q:Int)∧r=q+1:=by
      have:=HZ.out;rcases Ybj r with h|h
      · exact .inl ⟨by omega,h⟩
      · exact .inr ⟨r-1,by omega,by omega⟩
     clear HZ;rcases hr0 with⟨rfl,rfl⟩|⟨q,rfl,rfl⟩
     · have hfin:Hid (S6=⟨(Zjo L (i+1)).toArray⟩):=by show _=_;rw[HS6.out,HST.out,Nat.sub_zero,Nat.min_eq_right (Nat.sub_le _ _)]
       clear HST HS6 HEH HRw HD HSi HS0 HRr hT5l;go_wp2_with fail;go_roundw
       case rel=>exact⟨i+1,by omega,by go_num,HB7,_,rfl,hfin⟩
       case measure=>simp[intOf];omega
     · have hq0:(0:Int)≤(q:Int):=by omega
       go_upto_region 19 with fail
       go_loopw [7] (fun vk wy=> ∃ k:Nat,k≤i∧vk= .int .i64 k∧wr=wy∧Hid (∀ j,k<j→j≤i→(q:Int)<Zaj L j)) (fun vk _=>(intOf vk).toNat)
       case atStart=>exact⟨i,Yaf _,rfl,rfl,fun j h1 h2=>by omega⟩
       case round=>
        obtain⟨k,hk,rfl,rfl,HIN⟩:=hrel;obtain⟨B',O',hA',-,hadd',y0,-,-⟩:=HRw.out _ HB7.out k (by omega)
        injection hA' with hA'
        injection hA' with hBB hOO
        subst hBB hOO;have hkl:k<L.length:=by omega
        have hkI:(k:Int)<(L.length:Int):=by omega
        have hk0:(0:Int)≤(k:Int):=by omega
        have HDk:=Zhd (HD.out k (by omega))
        have hcI2:(L.length:Int)≤(cap:Int):=by omega
        obtain⟨E,hE⟩: ∃ x,L[k].depth=x:=⟨_,rfl⟩;rw[hE]at y0;have HDe:Hid (Zaj L k=E):=HDk.out.trans hE;clear HDk hE;by_cases hd:(q:Int)<E
        · have hkp:0<k:=by
           rcases Ybj k with h|h
           · exfalso;have h1:=HDe.out;rw[h,HS0.out]at h1;omega
           · exact h
          have HIN2:Hid (∀ j,k-1<j→j≤i→(q:Int)<Zaj L j):=fun j h1 h2=>by
           rcases Nat.eq_or_lt_of_le (show k≤j by omega)with h|h
           · rw[←h,HDe.out];exact hd
           · exact HIN.out j h h2
          have hki:(k:Int)-1=((k-1:Nat):Int):=by omega
          clear HIN HDe;go_wp2_with fail;go_roundw
          case rel=>exact⟨k-1,by omega,by go_num,trivial,HIN2⟩
          case measure=>simp[intOf];omega
        · have hki:k<i:=by
           rcases Ybp k i with h|h
           · exact h
           · exfalso;obtain rfl:k=i:=by omega
             have h1:=HDe.out;rw[HSi.out]at h1;omega
          have HIFF:=Zhd (HEH.out k q hki (by rw[HDe.out];omega) HIN.out)
          have HE2:=Zhd (HE.out _ HB7.out k (by omega))
          clear HIN HDe HEH HSi;generalize endB L k=en2 at *;go_upto_if 71 with(go_at_call 43;refine HE2.out.mono ?_;rintro e w8 ⟨rfl,hb8⟩)
          have HB8:=Zhd (Zaa HB7.out hb8);clear hb8 HE2 y0;by_cases hN:N≤q
          · have hen:en2=i+1:=HIFF.out.2 hN;have henI:((en2:Int)==(i:Int)+1)=true:=by rw[beq_iff_eq,hen];omega
            obtain⟨S7,hS7⟩: ∃ x,S6++⟨(Zbi q).toArray⟩=x:=⟨_,rfl⟩;have HS7:=Zhd (Zhw HS6.out (Zbi q));rw[hS7]at HS7;have hz7:S7.size≤221000:=by
             rw[Zil HS7.out,Yae,Zfw,←Zil HS6.out];omega
            have HS8:=Zhd (Zhw HS7.out [125,10])
            rw[show T5++Zhy d (min (d-(q+1)) (d-N))++Zbi q++ [125,10]=T5++Zhy d (min (d-q) (d-N)) by
             rw[Yba (by omega),Yba (by omega),show d-q=d-(q+1)+1 by omega,Znm,show d-(d-(q+1)+1)=q by omega];simp]at HS8
            have HB9:=Zhd (HBL.out q (by omega) w8)
            have hbq:=Zfw q;clear HS6 HS7 HIFF hen hN;go_wp2_with (go_at_call 41;refine HB9.out.mono ?_;rintro e w' ⟨rfl,hw'⟩;obtain rfl:=hw'.symm);go_roundw
            case rel=>exact⟨q,(q:Int)-1,by omega,by go_num,rfl,HB8,_,rfl,HS8⟩
            case measure=>simp[intOf]
          · have hen:en2≠i+1:=fun h=>hN (HIFF.out.1 h)
            have henI:((en2:Int)==(i:Int)+1)=false:=by rw[Yak];omega
            have HS8:Hid (S6=⟨(T5++Zhy d (min (d-q) (d-N))).toArray⟩):=by
             show _=_;rw[HS6.out,Nat.min_eq_right (show d-N≤d-(q+1) by omega),Nat.min_eq_right (show d-N≤d-q by omega)]
            clear HS6 HIFF hen hN;go_wp2_with fail;go_roundw
            case rel=>exact⟨q,(q:Int)-1,by omega,by go_num,rfl,HB8,_,rfl,HS8⟩
            case measure=>simp[intOf]
  · obtain rfl:i=L.length:=by omega
    go_wp2_with fail;go_ret;exact⟨by rw[HS.out];rfl,HB.out⟩
end Go.Proofs.Zq
