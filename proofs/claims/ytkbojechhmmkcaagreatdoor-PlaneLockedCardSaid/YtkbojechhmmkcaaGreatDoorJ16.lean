import Derived.Deep.Slices
import Derived.Deep.Fields
import Derived.ChangeSame
import Derived.Test.YtkbojechhmmkcaaGreatDoorJ15
import Derived.Test.YtkbojechhmmkcaaGreatDoorJ08
set_option linter.unusedVariables false
set_option linter.unusedSimpArgs false
set_option maxHeartbeats 4000000
set_option maxRecDepth 100000
namespace Lns
open Go Go.Lib Adr Mtr Tre Sch
theorem Zxh {P:List ByteArray} {f d:Nat} {out:List Line} (h:(Zar out (P.take (d+1))).isSome=true):Zdq P (f+1) d out=Zdq P f (d+1) out:=by
 unfold Zdq;rw[Yan h];cases f<;>rfl
theorem Ztk {P:List ByteArray} {f d:Nat} {out:List Line} (h:(Zar out (P.take (d+1))).isSome=false) (hl:200≤out.length):Zdq P (f+1) d out=none:=by
 unfold Zdq;rw[Yad (by rw[h];simp),Yan hl]
theorem Zxg {P:List ByteArray} {f d:Nat} {out:List Line} (h:(Zar out (P.take (d+1))).isSome=false) (hl: ¬ 200≤out.length):Zdq P (f+1) d out=Zdq P f (d+1) (insB out (Zbr out (P.take d) (wAt P d)) ⟨d,wAt P d,0⟩):=by
 conv=>lhs;unfold Zdq
 rw[Yad (by rw[h];simp),Yad hl]
end Lns
namespace Go.Proofs.Zq
open Tryz
open Go Go.RowKit Go.Sort Tre Sch Lns
def Zcd (w:World) (M:List Line) (e:Ending) (w':World):Prop:=
 (∃ v,e= .returned v∧w'.ownsRow w.heap.size 62 3 v M.length (lines M))∧Below w.heap.size w w'
theorem Zeh (A:Option Addr) (c:Nat) (M:List Line) (w:World) (hR:Rd w 3 A M.length (lines M)) (hnil:A=none→c=0) (hb:M.length≤1000000):
 Calls prog 68 #[.slice A M.length c] w (Zcd w M):=by
 obtain⟨i0,hii,hz0,hz1,hz2⟩:=info_parts Zhg;cases A with
 | none=>
   have h0:M.length=0:=by
    rcases Ybn M.length with h|h
    · exact h
    · obtain⟨ad,e,-⟩:=hR.2 h;cases e
   obtain rfl:=Yar h0;obtain rfl:=hnil rfl;have heq:=fun wx:World=>Lib.run_eql_slice_nil (P:=prog) wx 26 62 none 0 0 0 0 underlying26
   go_enter func68,ntmps68;go_wp2;go_ret;exact⟨⟨_,rfl,World.ownsRow_nil _ _ _ _⟩,Yae _ _⟩
 | some ad=>
   obtain⟨wo,hwo⟩: ∃ wo,w.alloc (.cells #[] 62)=wo:=⟨_,rfl⟩;have hbo:Below w.heap.size w wo:=by rw[←hwo];exact(Yae _ _).alloc (Yag _) _
   have hown:wo.ownsRow w.heap.size 62 3 (.slice (some ⟨w.heap.size,0,none⟩) 0 0) 0 []:=by
    rw[←hwo];have:=World.ownsRow_lit (e:=62) (size:=3) (base:=w.heap.size) w #[] 0 (Yag _) (by unfold maxLen;omega) rfl
    simpa using this
   have HR:=Zhd (hR.below hbo);have HO:=Zhd hown;have HBo:=Zhd hbo;have heq:=fun wx:World=>Lib.run_eql_slice_nil (P:=prog) wx 26 62 (some ad) M.length c 0 0 underlying26
   have HN:Hid (0+M.length≤1000000000):=by show _≤_;omega
   clear hR hown hbo;go_enter func68,ntmps68;go_wp2_with (at_builtin;(refine Zaaa rfl _ _ 26 rfl w wo 62 i0 _ 3 32 underlying26 hii hz0 hz1 hz2 rfl (by decide) (by decide) HO.out HBo.out rfl (some ad) M.length c (lines M) rfl HR.out (fun h=>by cases h) (Ziu _) HN.out ?_;intro v1 w3 hown1 hb3))
   have HO3:Hid (w3.ownsRow w.heap.size 62 3 v1 M.length (lines M)):=by show World.ownsRow _ _ _ _ _ _ _;simpa using hown1
   clear hown1;go_wp2_with fail;go_ret;exact⟨⟨_,rfl,HO3.out⟩,hb3⟩
theorem Zfy {w:World} {A:Option Addr} {P:List ByteArray} (h:Rd w 1 A P.length (sv P)) {n:Nat} (hn:n≤P.length):Rd w 1 A n (sv (P.take n)):=by
 refine⟨by rw[Zij,Yaf];omega,fun h0=> ?_⟩
 obtain⟨ad,e,hb,hx⟩:=h.2 (by omega)
 refine⟨ad,e,hb,fun j u hu=>hx j u ?_⟩
 unfold sv at hu⊢;rw[List.map_take,Ycp]at hu;split at hu
 · exact hu
 · cases hu
def Zje (L:List Line) (P:List ByteArray) (w:World) (e:Ending) (w':World):Prop:=
 ∃ A c,e= .returned (.tuple #[.slice A (addB L P).1.length c, .int .i64 (addB L P).2])∧(addB L P).1.length≤c∧c≤maxLen∧Rd w' 3 A (addB L P).1.length (lines (addB L P).1)∧(A=none→c=0)∧Below w.heap.size w w'
def Lr (w:World) (v:Value) (M:List Line):Prop:= ∃ A c,v= .slice A M.length c∧M.length≤c∧c≤maxLen∧Rd w 3 A M.length (lines M)∧(A=none→c=0)
theorem Lr.below {w w':World} {v:Value} {M:List Line} (h:Lr w v M) (hb:Below w.heap.size w w'):Lr w' v M:=by
 obtain⟨A,c,h1,h2,h3,h4,h5⟩:=h;exact⟨A,c,h1,h2,h3,h4.below hb,h5⟩
theorem Lr.own {w:World} {base:Nat} {v:Value} {M:List Line} (h:w.ownsRow base 62 3 v M.length (lines M)):Lr w v M:=by
 obtain⟨A,c,h1,h2,h3,h4,h5,-⟩:=Zcv h;exact⟨A,c,h1,h2,h3,h4,h5⟩
theorem Zaul (A:Option Addr) (cap:Nat) (L:List Line) (Ap:Option Addr) (cp:Nat) (P:List ByteArray) (w:World) (hR:Rd w 3 A L.length (lines L)) (hcap:L.length≤cap) (hc:cap≤maxLen) (hnil:A=none→cap=0) (hr:Zab L=true) (hP:Rd w 1 Ap P.length (sv P)) (hcp:P.length≤cp) (hc2:cp≤maxLen) (hs:Zem P=true) (h16:P.length≤16):
 Calls prog 58 #[.slice A L.length cap, .slice Ap P.length cp] w (Zje L P w):=by
 have HRi:=Zbg A cap L w hR hcap hc;rw[hr]at HRi;have HRg:=Zhd HRi
 have HSo:Hid (∀ W,Below w.heap.size w W→Calls prog 93 #[.slice Ap P.length cp] W fun e w'=>e= .returned (.bool true)∧w'=W):=fun W hb=>by
  have:=Zlg Ap cp P W (hP.below hb) (by omega)
  rwa [hs]at this
 have hc63:cp≤9223372036854775807:=by unfold maxLen at hc2;omega
 have HL0:Hid (Lr w (.slice A L.length cap) L):=⟨A,cap,rfl,hcap,hc,hR,hnil⟩;have HP:=Zhd hP;have h200:=Zas hr
 have HX:Hid (addB L P=match Zdq P P.length 0 L with|some M=>(M,0)|none=>(L,5)):=by
  show _=_;unfold addB;rw[Yad (by rw[hr,hs];simp),Yad (by omega)]
  cases Zdq P P.length 0 L<;>rfl
 have HRR:=Zhd hr;have HSS:=Zhd hs;clear HRi hR hP hr hs;go_enter func58,ntmps58;go_wp2_with fail;refine HRg.out.mono ?_;rintro e w1 ⟨rfl,hb1⟩;have HB1:=Zhd hb1;clear hb1 HRg;go_wp2_with fail;refine(HSo.out w1 HB1.out).mono ?_;rintro e w2 ⟨rfl,rfl⟩;clear HSo;go_wp2_with fail;go_loopw [6,29] (fun v vi wr=> ∃ (d:Nat) (M:List Line),d≤P.length∧vi= .int .i64 d∧Hid (Lr wr v M)∧Hid (Zab M=true)∧Hid (d=0∨P.take d∈Zaf M)∧Hid (Zdq P P.length 0 L=Zdq P (P.length-d) d M)∧Hid (Below w.heap.size w wr)) (fun _ vi _=>P.length-(intOf vi).toNat)
 case atStart=>exact⟨0,L,Yao _,rfl,HL0.out.below HB1.out,HRR.out, .inl rfl,rfl,HB1.out⟩
 case round=>
  obtain⟨d,M,hd,rfl,HM,HMr,HU,HQ,HB⟩:=hrel;obtain⟨Am,cm,rfl,hcm1,hcm2,hrdm,hnilm⟩:=HM.out;have HRm:=Zhd hrdm;have HNm:=Zhd hnilm;have hm200:=Zas HMr.out;clear hrdm hnilm;by_cases hlt:d<P.length
  · obtain⟨B,O,rfl,hab,hadd,hx⟩:=(HP.out.below HB.out).strAt hlt;have hw40:=Zqg HSS.out hlt;have hwa:P[d]=wAt P d:=by unfold wAt;rw[Yaq,Yaj hlt];rfl
    rw[hwa]at hx;obtain⟨f,hf⟩: ∃ f,P.length-d=f+1:=⟨P.length-d-1,by omega⟩
    have hf2:f=P.length-(d+1):=by omega
    have hq:=HQ.out;rw[hf]at hq
    have HFi:=Zhd (fun W (hb:Below wr.heap.size wr W)=>Zbq Am cm M (some ⟨B,O,none⟩) cp (P.take (d+1)) W (HRm.out.below hb) hcm1 hcm2 HMr.out (by
     have:=Zfy ((HP.out.below HB.out).below hb) (n:=d+1) (by omega)
     rw[Yaf,Ybb (by omega)];exact this) (by rw[Yaf];omega) hc2)
    have hl1:(P.take (d+1)).length=d+1:=by rw[Yaf];omega
    rw[hl1]at HFi;have hdp:(d:Int)+1≤(P.length:Int):=by omega
    have hd0:(0:Int)≤(d:Int)+1:=by omega
    have hdc:d+1≤cp:=by omega
    have hdw:IntKind.i64.wrap ((d:Int)+1)=(d:Int)+1:=by rw[IntKind.wrap_i64];omega
    have hdt:((d:Int)+1).toNat=d+1:=by omega
    cases hfi:Zar M (P.take (d+1))with
    | some k=>
      have HQ2:Hid (Zdq P P.length 0 L=Zdq P (P.length-(d+1)) (d+1) M):=by
       show _=_;rw[hq,Zxh (by rw[hfi];rfl),hf2]
      have HU2:Hid (d+1=0∨P.take (d+1)∈Zaf M):= .inr ((Zft HMr.out).1 (by rw[hfi];rfl))
      rw[hfi]at HFi;have HFr:=Zhd (HFi.out wr (Yae _ _));clear HFi hq hfi HQ HU;go_wp2_with (go_at_call 47;refine HFr.out.mono ?_;rintro e w3 ⟨rfl,hb3⟩;have HB3:=Zhd (Zaa HB.out hb3);have HM3:=Zhd (HM.out.below hb3);clear hb3 hx);go_roundw
      case rel=>exact⟨d+1,M,by omega,by go_num,HM3,HMr,HU2,HQ2,HB3⟩
      case measure=>simp[intOf];omega
    | none=>
      rw[hfi]at HFi;have HFr:=Zhd (HFi.out wr (Yae _ _));by_cases hful:200≤M.length
      · have HQ2:Hid (addB L P=(L,5)):=by
         show _=_;rw[HX.out,hq,Ztk (by rw[hfi];rfl) hful]
        clear HFi hq hfi HQ HU;go_wp2_with (go_at_call 47;refine HFr.out.mono ?_;rintro e w3 ⟨rfl,hb3⟩;have HB3:=Zhd (Zaa HB.out hb3);clear hb3 hx);refine bodyPost_ret (results_tmp2 rfl _ _ _) rfl ?_;unfold Zje;rw[HQ2.out];obtain⟨A0,c0,e0,g1,g2,g3,g4⟩:=HL0.out.below HB3.out;injection e0 with e1 e2 e3
        subst e1;subst e3;exact⟨_,_,rfl,g1,g2,g3,g4,HB3.out⟩
      · obtain⟨s1,s2,s3⟩:=Zur HSS.out h16 HMr.out hlt HU.out hfi (by omega)
        have HQ2:Hid (Zdq P P.length 0 L=Zdq P (P.length-(d+1)) (d+1) (insB M (Zbr M (P.take d) (wAt P d)) ⟨d,wAt P d,0⟩)):=by
         show _=_;rw[hq,Zxg (by rw[hfi];rfl) hful,hf2]
        have HR2:=Zhd s1;have HU2:Hid (d+1=0∨P.take (d+1)∈Zaf (insB M (Zbr M (P.take d) (wAt P d)) ⟨d,wAt P d,0⟩)):= .inr ((s3 _).2 (.inl rfl));clear HFi hq hfi HQ HU s1 s3;have hful2: ¬ (200:Int)≤(M.length:Int):=by omega
        go_wp2_with (go_at_call 47;refine HFr.out.mono ?_;rintro e w3 ⟨rfl,hb3⟩;have HB3:=Zhd (Zaa HB.out hb3);have HM3:=Zhd (HRm.out.below hb3);clear hb3 hx);have hks:=s2;generalize hkk:Zbr M (P.take d) (wAt P d)=k at *;have HCl:Hid (∀ W,Below w3.heap.size w3 W→Calls prog 68 #[.slice Am M.length cm] W (Zcd W M)):=fun W hb=>Zeh Am cm M W (HM3.out.below hb) HNm.out (by omega)
        have HSp:Hid (∀ W,Below w3.heap.size w3 W→Calls prog 95 #[.slice Am M.length cm, .slice (some ⟨B,O,none⟩) d cp, .string (wAt P d)] W fun e w'=>e= .returned (.int .i64 (k:Nat))∧Below W.heap.size W w'):=fun W hb=>by
         have:=Zaey Am cm M (some ⟨B,O,none⟩) cp (P.take d) (wAt P d) W (HM3.out.below hb) hcm1 hcm2 HMr.out (by
          have:=Zfy ((HP.out.below HB3.out).below hb) (n:=d) (by omega)
          rw[Yaf,Ybb (by omega)];exact this) (by rw[Yaf];omega) hc2
         rw[hkk,Yaf,Ybb (by omega)]at this
         exact this
        have HKK:=Zhd hkk;have hdi0:(0:Int)≤(d:Int):=by omega
        have hdi1:(d:Int)≤(cp:Int):=by omega
        have hdi2:d≤cp:=by omega
        clear hkk s2;go_region_held3 (fun _=>True) (trivial) (first|(go_at_call 68;refine(HCl.out _ ?hbw).mono ?_;(case hbw=>repeat (first|with_reducible exact Yae _ _|exact Yag _|(simp;done)|with_reducible refine Below.drew ?_|with_reducible refine Below.alloc ?_ ?_ _));unfold Zcd;rintro e w4 ⟨⟨v4,rfl,hv4⟩,hb4⟩;have HO4:=Zhd hv4;have HL4:=Zhd hb4;have HB34:Hid (Below w3.heap.size w3 w4):=Zaa (by repeat (first|with_reducible exact Yae _ _|exact Yag _|(simp;done)|with_reducible refine Below.drew ?_|with_reducible refine Below.alloc ?_ ?_ _)) hb4;clear hb4 hv4)|(go_at_call 95;refine(HSp.out _ ?hbw).mono ?_;(case hbw=>repeat (first|with_reducible exact HB34.out|exact Yas HB34.out.size (by simp)|with_reducible refine Below.alloc ?_ ?_ _));rintro e w5 ⟨rfl,hb5⟩;have HL5:=Zhd hb5;clear hb5)|(go_at_call_of 94 (Value.slice (some ⟨w5.heap.size,0,none⟩) 1 1);refine(Zfz _ _ v4 k w5.heap.size 1 62 M ⟨d,wAt P d,0⟩ ((HL4.out.trans (HL5.out.mono HL4.out.size)).alloc (Yas HL4.out.size HL5.out.size) _) ((Zah HO4.out HL5.out).alloc _) hks (by omega) (heap_alloc_new w5 _) (fun h=>absurd ((Zah HO4.out HL5.out).lt _ h).2 (Nat.lt_irrefl _))).mono ?_;rintro e w6 ⟨⟨v6,rfl,hv6⟩,hb6⟩;have HM6:=Zhd (Lr.own hv6);have HB36:Hid (Below w3.heap.size w3 w6):=Zaa (by repeat (first|with_reducible exact Yae _ _|exact Yag _|(simp;done)|with_reducible refine Below.drew ?_|with_reducible refine Below.alloc ?_ ?_ _)) hb6;clear hb6 hv6)|(go_at_call_of 94 (Value.slice (some ⟨w4.heap.size,0,none⟩) 1 1);refine(Zfz _ _ v4 k w4.heap.size 1 62 M ⟨d,wAt P d,0⟩ ((HL4.out.alloc HL4.out.size _).trans (HL5.out.mono (Yas HL4.out.size (by simp)))) (Zah (HO4.out.alloc _) HL5.out) hks (by omega) ((HL5.out.block _ (by simp)).trans (heap_alloc_new w4 _)) (fun h=>absurd (HO4.out.lt _ h).2 (Nat.lt_irrefl _))).mono ?_;rintro e w6 ⟨⟨v6,rfl,hv6⟩,hb6⟩;have HM6:=Zhd (Lr.own hv6);have HB36:Hid (Below w3.heap.size w3 w6):=Zaa (by repeat (first|with_reducible exact Yae _ _|exact Yag _|(simp;done)|with_reducible refine Below.drew ?_|with_reducible refine Below.alloc ?_ ?_ _)) hb6;clear hb6 hv6)|(go_at_call_of 94 (Value.slice (some ⟨w3.heap.size,0,none⟩) 1 1);refine(Zfz _ _ v4 k w3.heap.size 1 62 M ⟨d,wAt P d,0⟩ (HL4.out.trans (HL5.out.mono HL4.out.size)) (Zah HO4.out HL5.out) hks (by omega) ((HL5.out.block _ (Ybp (by simp) HL4.out.size)).trans ((HL4.out.block _ (by simp)).trans (heap_alloc_new w3 _))) (fun h=>absurd (HO4.out.lt _ h).1 (by simp))).mono ?_;rintro e w6 ⟨⟨v6,rfl,hv6⟩,hb6⟩;have HM6:=Zhd (Lr.own hv6);have HB36:Hid (Below w3.heap.size w3 w6):=Zaa (by repeat (first|with_reducible exact Yae _ _|exact Yag _|(simp;done)|with_reducible refine Below.drew ?_|with_reducible refine Below.alloc ?_ ?_ _)) hb6;clear hb6 hv6))
        all_goals
         have HB6:=Zhd (Zaa HB3.out HB36.out);clear HO4 HL4 HB34 HL5 HB36 HCl HSp;go_wp2;go_roundw
         case rel=>exact⟨d+1,_,by omega,by go_num,HM6,HR2,HU2,HQ2,HB6⟩
         case measure=>simp[intOf];omega
  · have hde:d=P.length:=by omega
    have HQ2:Hid (addB L P=(M,0)):=by
     show _=_;rw[HX.out,HQ.out,hde,Yep];rfl
    have HClo:=Zhd (Zeh Am cm M wr HRm.out HNm.out (by omega))
    clear HQ HU;go_wp2_with (go_at_call 68;refine HClo.out.mono ?_;unfold Zcd;rintro e w4 ⟨⟨v4,rfl,hv4⟩,hb4⟩;have HM4:=Zhd (Lr.own hv4);have HB4:=Zhd (Zaa HB.out hb4);clear hb4 hv4);refine bodyPost_ret (results_tmp2 rfl _ _ _) rfl ?_;unfold Zje;rw[HQ2.out];obtain⟨A0,c0,e0,g1,g2,g3,g4⟩:=HM4.out;exact⟨A0,c0,by rw[←e0];rfl,g1,g2,g3,g4,HB4.out⟩
open Go.ChangeShapes Go.WideShapes Go.Deep
section
variable {H:Type} {enc:TypeId×Value→H} {P:Program} {w:World} {base:Nat} {spare:Nat→Bool} {held:Bool}
theorem open_nilL {t e:TypeId} {n cap:Nat} {d:DataW H} {p:List MemPlace} (ht:P.underlying t=some (.slice e)) (h:DataW.Trod enc P w base spare held t (.slice none n cap) d p):cap=0:=by
 obtain⟨fuel,hf⟩:=h;rcases open_slice ht hf with⟨hcs,-⟩|⟨a,len',cap',m,n',D,Pl,hcs,-⟩
 · simp[Value.cells]at hcs;exact hcs.2
 · simp[Value.cells]at hcs
end
open Adr Mtr
theorem Zkv:(prog.info? 62).map (fun i=>(i.zero,i.size,i.bytes))=some (some (.agg #[.int .i64 0, .string ⟨#[]⟩, .int .i64 0]),3,32):=by kernel_rfl
theorem Ziv (L:List Line): ∀ u∈lines L,u.oneCell'=true:=by
 intro u hu;unfold lines at hu;obtain⟨l,-,h⟩:=Ydf.1 hu;exact Tre.cells_one l u h
theorem Zwm {w:World} {A:Option Addr} {L:List Line} (h:Rd w 3 A L.length (lines L)) {n:Nat} (hn:n≤L.length):Rd w 3 A n (lines (L.take n)):=by
 refine⟨by rw[Zad,Yaf,Ybb hn],fun h0=> ?_⟩
 obtain⟨ad,e,hb,hx⟩:=h.2 (by omega)
 refine⟨ad,e,hb,fun j u hu=>hx j u ?_⟩
 conv=>lhs;rw[←Ybh n L,Zba]
 rw[Yca (Yba.1 hu).1];exact hu
theorem Zrz {w:World} {b o:Nat} {L:List Line} (h:Rd w 3 (some ⟨b,o,none⟩) L.length (lines L)) {n:Nat} (hn:n≤L.length):Rd w 3 (some ⟨b,o+n*3,none⟩) (L.length-n) (lines (L.drop n)):=by
 refine⟨by rw[Zad,Yam],fun h0=> ?_⟩
 obtain⟨ad,e,hb,hx⟩:=h.2 (by omega)
 injection e with e
 subst e;refine⟨_,rfl,hb,fun j u hu=> ?_⟩
 have:=hx (n*3+j) u (by
  conv=>lhs;rw[←Ybh n L,Zba]
  rw[Ybi (by rw[Zad,Yaf,Ybb hn];omega),Zad,Yaf,Ybb hn,Ydw];exact hu)
 rw[Zag]at this⊢;rw[←this,Ydh]
open Lx Prs
theorem Zye (w:World) (b:Option Nat):w.grownBy w b:=by
 constructor<;>first|rfl|exact Yag _|(intros;rfl)
theorem Zuk {P:Program} {ops:Array Oper} {o:Oper} {a:Act} {K:Act→World→Prop} {Q:Exit→Act→World→Prop} {E:Prop} (hgd:o.guard=none) (s x:Operand) (t:TypeId)
 (ho:o.op= .call {callee:= .builtin .append,args:= #[s,x],argTypes:= #[t,t]})
 (B:Nat) (wr:World) (e:TypeId) (i:TypeInfo) (z:Value) (size bytes:Nat) (ht:P.underlying t=some (.slice e)) (hi:P.info? e=some i) (hz:i.zero=some z)
 (hsize:i.size=size) (hby:i.bytes=bytes) (hzs:z.cells.size=size) (hsz:0<size) (hb64:bytes≤64)
 {v:Value} {n:Nat} {xs:List Value} (hown:wr.ownsRow B e size v n xs) (hB:B≤wr.heap.size) (hs:a.eval s=v)
 (A:Option Addr) (m c:Nat) (news:List Value) (hx:a.eval x= .slice A m c) (hR:Rd wr size A m news) (hnil:A=none→c=0) (h1: ∀ u∈news,u.oneCell'=true)
 (hN:n+m≤1000000000)
 (h: ∀ v' w',w'.ownsRow B e size v' (n+m) (xs++news)→Below B wr w'→wr.grownBy w' v.ownBlock→Zbn e wr w'→K (a.put o.dst v') w'):
 if Region.wanted o (yielded ops a.tmps)=true then Oper.wp P o a wr K Q else E:=by
 have hw:Region.wanted o (yielded ops a.tmps)=true:=by simp[Region.wanted,hgd]
 have hbytes:(n+m)*bytes≤140737488355328:=Yas (Yde hN hb64) (by decide)
 rw[Yan hw];rcases A with _|ad
 · have hm:m=0:=by
    rcases Ybn m with h0|h0
    · exact h0
    · obtain⟨ad,h,-⟩:=hR.2 h0;cases h
   subst hm;have hn:news= []:=Yar (by simpa using hR.1)
   subst hn;obtain rfl:=hnil rfl;have hrun:=run_append_owned_none (P:=P) (w:=wr) B t o.type e i size ht hi v n xs hown;unfold Oper.wp;simp[execOp,ho,resolve,invoke,builtin,hs,hx,hrun,Result.andThen];exact h v wr (by simpa using hown) (Yae _ _) (Zye _ _) (Zbn.refl _ _)
 · exact wp_append_own wr s x t ho B e i z size bytes ht hi hz hsize hby hzs hsz v n xs hs hown ad m c news hx hR.1 (fun j u hu=>by
    obtain⟨ad',e',-,hc⟩:=hR.cell hu;injection e' with e'
    subst e';exact hc) h1 (by unfold maxLen;omega) hbytes hB
    fun v' w' hown' hg _=>h v' w' hown' ((Yae B wr).grown hg hB fun q hq=>(hown.lt q hq).1) hg (Zbn.grown hown hg)
theorem Zasa {W0 wr w':World} {B Bs n m k k':Nat} {e e':TypeId} {vo vs:Value} {xs ys:List Value} (hs:wr.ownsRow Bs e' k' vs m ys) (ho:W0.ownsRow B e k vo n xs) (hlt:W0.heap.size≤Bs) (hg:wr.grownBy w' vo.ownBlock):w'.ownsRow Bs e' k' vs m ys:=
 ⟨hs.1,hs.2.imp id fun⟨q,cap,cur,h1,h2,h3,h4⟩=>⟨q,cap,cur,h1,h2,(hg.block q (Ybc.1 h3).1 (fun h=>by
  have:=(ho.lt q h.symm).2;omega)).trans h3,h4⟩⟩
theorem Zoq {w:World} {B:Nat} {v:Value} {l:List Nat} {k:Nat} (h:w.ownsRow B 3 1 v (l.length+1) (iv l++ [.int .i64 (k:Int)])):w.ownsRow B 3 1 v (l++ [k]).length (iv (l++ [k])):=by
 rw[show iv (l++ [k])=iv l++ [.int .i64 (k:Int)] by unfold iv;simp,Yak];exact h
theorem Zeg {a w:World} (h:Below a.heap.size a w) (o:Obj):Below a.heap.size a (w.alloc o):=h.alloc h.size o
theorem Zmg (w:World) (T:TypeId) (x:Line):Rd (w.alloc (.cells #[.int .i64 x.depth, .string x.word, .int .i64 x.mark] T)) 3 (some ⟨w.heap.size,0,none⟩) 1 (lines [x]):=by
 refine⟨rfl,fun _=>⟨_,rfl,by simp,fun j u hu=> ?_⟩⟩
 rw[Zag,Ybj,World.cell?_alloc_at _ _ _ _ rfl];have:lines [x]= [.int .i64 x.depth, .string x.word, .int .i64 x.mark]:=rfl;rw[this]at hu;simpa using hu
theorem Zace (N:List Nd) (u:Int) (hN:Zpl N) (hl2:N.length≤200) (A:Option Addr) (c pl base:Nat) (A2:Option Addr) (cap:Nat) (w:World) (hB:base≤w.heap.size) (hlp:pl<base) (hl:w.cell? ⟨pl,0,none⟩=some (.slice A N.length c)) (hR:RdB base w 4 A N.length (nds N))
 (hO:w.ownsRow base 3 1 (.slice A2 (kidsB N u).length cap) (kidsB N u).length (iv (kidsB N u))):
 Calls prog 117 #[.slice A2 (kidsB N u).length cap, .func (.func 118) #[] #[.pointer (some ⟨pl,0,none⟩)]] w fun e w'=>e= .returned (.tuple #[])∧
  w'.ownsRow base 3 1 (.slice A2 (kidsB N u).length cap) (kidsB N u).length (iv (Zcp N u))∧Below base w w':=by
 rcases Ybn (kidsB N u).length with h0|h0
 · have e1:kidsB N u= []:=Yar h0;have e2:Zcp N u= []:=Yar (by rw[Zsg];exact h0)
   rw[e2];rw[e1]at hO⊢;have h:=AnyF.slices_SortFunc_none Tryz.sortI06 A2 cap (.func (.func 118) #[] #[.pointer (some ⟨pl,0,none⟩)]) w;refine Calls.mono h ?_;rintro e w' ⟨rfl,rfl⟩;exact⟨rfl,hO,Yae _ _⟩
 · obtain⟨m,hm⟩: ∃ m,(kidsB N u).length=m+1:=⟨(kidsB N u).length-1,by omega⟩
   rw[hm]at hO;obtain⟨q,cc,e⟩:=Zck hO;injection e with e1 e2 e3
   subst e1;subst e3;rw[←hm]at hO;exact Zanw N u hN hl2 A c pl base q cap w h0 hB hlp hl hR hO
theorem Zawd {w:World} {B:Nat} {A:Option Addr} {c n j:Nat} {l:List Nat} (hl:l.length=n) (h:w.ownsRow B 3 1 (.slice A n c) n (iv l)) (hj:j<l.length): ∃ q,A=some ⟨q,0,none⟩∧w.cell? ⟨q,j,none⟩=some (.int .i64 (l[j]:Int)):=by
 rcases h.2 with⟨-,h0⟩|⟨q,cap,cur,e,-⟩
 · omega
 · injection e with e1 e2 e3
   subst e1;refine⟨q,rfl, ?_⟩;rw[h.cellAt j (by omega)]
   exact Zady hj
theorem Zawe {w:World} {B:Nat} {v:Value} {L M:List Line} {r:Line} (h:w.ownsRow B 62 3 v (L.length+1+M.length) ((lines L++lines [r])++lines M)):w.ownsRow B 62 3 v (L++([r]++M)).length (lines (L++([r]++M))):=by
 rw[Zba,Zba,Yak,Yak,←Ybm,←Ydh];exact h
theorem Zor {w:World} {B k n c:Nat} {e:TypeId} {A:Option Addr} {xs:List Value} (h:w.ownsRow B e k (.slice A n c) n xs):Rd w k A n xs∧(A=none→c=0):=by
 obtain⟨A',c',e',-,-,g3,g4,-⟩:=Zcv h;injection e' with e1 e2 e3
 subst e1;subst e3;exact⟨g3,g4⟩
theorem Zsj (N:List Nd) (u:Int) (hN:Zpl N) (hl2:N.length≤200) (A:Option Addr) (c:Nat) (W:World) (hR:Rd W 4 A N.length (nds N)) (R:Nat→List Line)
 (HR: ∀ i,i∈Zcp N u→ ∀ W',Below W.heap.size W W'→Calls prog 74 #[.slice A N.length c, .int .i64 (i:Int)] W' (Zcd W' (R i)))
 (hlen: ∀ j,(((Zcp N u).take j).flatMap fun i=>(Zaz N i).line::R i).length≤200) (hlr: ∀ i,i∈Zcp N u→(R i).length≤200):
 Calls prog 74 #[.slice A N.length c, .int .i64 u] W (Zcd W ((Zcp N u).flatMap fun i=>(Zaz N i).line::R i)):=by
 obtain⟨w1,hw1⟩: ∃ w1,W.alloc (.cells #[.slice A N.length c] 124)=w1:=⟨_,rfl⟩;have hb1:Below W.heap.size W w1:=by rw[←hw1];exact(Yae _ _).alloc (Yag _) _
 have hs1:w1.heap.size=W.heap.size+1:=by rw[←hw1];simp
 have hc1:w1.cell? ⟨W.heap.size,0,none⟩=some (.slice A N.length c):=by rw[←hw1,World.cell?_alloc_at _ _ _ _ rfl];rfl
 have HRN:=Zhd (hR.below hb1);have HRB:Hid (RdB w1.heap.size w1 4 A N.length (nds N)):=hR.below hb1;have HB1:=Zhd hb1;have hpl:W.heap.size<w1.heap.size:=by omega
 have HN1:=Zhd hN;have HLen:=Zhd hlen;have HLr:=Zhd hlr;have HRec:Hid (∀ i,i∈Zcp N u→ ∀ W',Below w1.heap.size w1 W'→Calls prog 74 #[.slice A N.length c, .int .i64 (i:Int)] W' (Zcd W' (R i))):=fun i hi W' hb=>HR i hi W' (hb1.trans (hb.mono (by omega)))
 obtain⟨i0,hi,hz0,hz1,hz2⟩:=info_parts Zrf;obtain⟨j0,hji,hy0,hy1,hy2⟩:=info_parts Zkv;obtain⟨f,hf⟩: ∃ f:Nat→List Line,f=fun j=>((Zcp N u).take j).flatMap fun i=>(Zaz N i).line::R i:=⟨_,rfl⟩
 have F0:Hid (f 0= []):=by show _=_;rw[hf];simp
 have F1:Hid (∀ j (h:j<(Zcp N u).length),f (j+1)=f j++([(Zaz N (Zcp N u)[j]).line]++R (Zcp N u)[j])):=by
  intro j h;rw[hf];simp only;rw[Yaw h,Ycg];simp
 have FN:f (Zcp N u).length=(Zcp N u).flatMap fun i=>(Zaz N i).line::R i:=by rw[hf];simp
 have FL:Hid (∀ j,(f j).length≤200):=by intro j;rw[hf];exact HLen.out j
 have HMem:Hid (∀ i,i∈Zcp N u→i<N.length):=fun i hi=>(Zcw.1 hi).1
 have HKl:=Zhd (Zsg N u);have hSl:(Zcp N u).length≤200:=by rw[Zsg];exact Yas (Prs.kidsTo_len _ _ _) hl2
 rw[←FN];have HSo:=Zhd (fun(A2:Option Addr) (c2:Nat) (w:World) (hb:Below w1.heap.size w1 w) (ho:w.ownsRow w1.heap.size 3 1 (.slice A2 (kidsB N u).length c2) (kidsB N u).length (iv (kidsB N u)))=>Zace N u HN1.out hl2 A c W.heap.size w1.heap.size A2 c2 w hb.size hpl ((hb.cell (p:=⟨W.heap.size,0,none⟩) hpl).trans hc1) (HRB.out.below hb) ho)
 rw[←HKl.out]at HSo;have HK0:Hid (∀ (w:World) (v:Value),w.ownsRow w1.heap.size 3 1 v (kidsB N u).length (iv (kidsB N u))→w.ownsRow w1.heap.size 3 1 v (Zcp N u).length (iv (kidsB N u))):=by rw[HKl.out];exact fun _ _ h=>h
 clear hR HR hb1 hN hlen hlr hs1 hf FN HLen HN1 HKl;generalize Zcp N u=S at *;unfold Zcd;go_enter func74,ntmps74;go_wp2;go_loopw [5,13] (fun vk vi wr=> ∃ k:Nat,vi= .int .i64 k∧k≤N.length∧Hid (wr.ownsRow w1.heap.size 3 1 vk (Prs.kidsTo N u k).length (iv (Prs.kidsTo N u k)))∧Hid (Below w1.heap.size w1 wr)) (fun _ vi _=>N.length-(intOf vi).toNat)
 case atStart=>exact⟨0,rfl,Yao _,World.ownsRow_nil _ _ _ _,Yae _ _⟩
 case round=>
  obtain⟨k,rfl,hk,HO,HB⟩:=hrel;by_cases hlt:k<N.length
  · obtain⟨b,o,rfl,hab,hadd,x0,x1,x2,x3⟩:=(HRN.out.below HB.out).nd hlt
    have hst:Hid (Prs.kidsTo N u (k+1)=if N[k].up=u then Prs.kidsTo N u k++ [k]else Prs.kidsTo N u k):=by
     show _=_;rw[Prs.kidsTo_succ];unfold Prs.isKid;rw[Zfg hlt];by_cases h:N[k].up=u<;>simp[h]
    have hkl:=Prs.kidsTo_len N u k;generalize N[k]=r at *;by_cases hu:r.up=u
    · have q1:(r.up==u)=true:=beq_iff_eq.2 hu;have HS:Hid (Prs.kidsTo N u (k+1)=Prs.kidsTo N u k++ [k]):=by show _=_;rw[hst.out,Yan hu]
      clear hst hu;have HO2:=Zhd (HO.out.alloc (.cells #[.int .i64 r.line.depth, .string r.line.word, .int .i64 r.line.mark, .int .i64 r.up] 169));have HB2:=Zhd (Zeg HB.out (.cells #[.int .i64 r.line.depth, .string r.line.word, .int .i64 r.line.mark, .int .i64 r.up] 169));clear HO HB;go_wp2_with (at_builtin;refine Zfq rfl _ _ 125 rfl w1 _ 3 i0 _ 1 8 underlying125 hi hz0 hz1 hz2 rfl (by decide) (by decide) HO2.out HB2.out rfl 1 1 [.int .i64 (k:Int)] (by show Value.slice (some ⟨_,0,none⟩) 1 1=_;simp) rfl (by simp;rfl) (by omega) ?_;intro v' w' hown' hb')
      have HO3:=Zhd (Zoq hown');have HB3:=Zhd hb';clear hown' hb' HO2 HB2 x0 x1 x2 x3;go_wp2_with fail;go_roundw
      case rel=>exact⟨k+1,by go_num,by omega,by rw[HS.out];exact HO3.out,HB3.out⟩
      case measure=>simp[intOf];omega
    · have q1:(r.up==u)=false:=Yai.2 hu;have HS:Hid (Prs.kidsTo N u (k+1)=Prs.kidsTo N u k):=by show _=_;rw[hst.out,Yad hu]
      have HO2:=Zhd (HO.out.alloc (.cells #[.int .i64 r.line.depth, .string r.line.word, .int .i64 r.line.mark, .int .i64 r.up] 169));have HB2:=Zhd (Zeg HB.out (.cells #[.int .i64 r.line.depth, .string r.line.word, .int .i64 r.line.mark, .int .i64 r.up] 169));clear hst hu HO HB;go_wp2_with fail;go_roundw
      case rel=>exact⟨k+1,by go_num,by omega,by rw[HS.out];exact HO2.out,HB2.out⟩
      case measure=>simp[intOf];omega
  · have hke:k=N.length:=by omega
    subst hke;have ho:=HK0.out _ _ HO.out;obtain⟨A2,c2,rfl,-,-,-⟩:=Zbe ho;have HSo2:=Zhd (HSo.out A2 c2 wr HB.out ho);clear ho HO hk hlt HSo HK0;go_wp2_with fail;refine HSo2.out.mono ?_;rintro e w5 ⟨rfl,ho5,hb5⟩;have HO5:=Zhd ho5;have HB5:=Zhd (HB.out.trans hb5);clear ho5 hb5 HSo2 HB;go_wp2;go_loopw [8,32] (fun vo vi wr=> ∃ j:Nat,vi= .int .i64 j∧j≤S.length∧Hid (wr.ownsRow w1.heap.size 62 3 vo (f j).length (lines (f j)))∧Hid (wr.ownsRow w1.heap.size 3 1 (.slice A2 S.length c2) S.length (iv S))∧Hid (Below w1.heap.size w1 wr)) (fun _ vi _=>S.length-(intOf vi).toNat)
    case atStart=>exact⟨0,rfl,Yao _,by rw[F0.out];exact World.ownsRow_nil _ _ _ _,HO5.out,HB5.out⟩
    case round=>
     clear HO5 HB5;obtain⟨j,rfl,hj,HO,HK,HB⟩:=hrel;by_cases hlt:j<S.length
     · obtain⟨q,rfl,c10⟩:=Zawd rfl HK.out hlt;have hiS:=Yau hlt;have hiN:=HMem.out _ hiS;have HFJ:=Zhd (F1.out j hlt);have HL1:=Zhd (FL.out j);have HL2:=Zhd (FL.out (j+1));have HRi:=Zhd (HRec.out _ hiS);generalize S[j]=i at *;obtain⟨b,o,rfl,hab,hadd,y0,y1,y2,-⟩:=HRN.out.nd hiN;rw[Zfg hiN]at HFJ
       have HCells:Hid (∀ W',Below w1.heap.size w1 W'→W'.cell? ⟨W.heap.size,0,none⟩=some (.slice (some ⟨b,o,none⟩) N.length c)∧W'.cell? ⟨b,o+i*4,none⟩=some (.int .i64 N[i].line.depth)∧W'.cell? ⟨b,o+i*4+1,none⟩=some (.string N[i].line.word)∧W'.cell? ⟨b,o+i*4+2,none⟩=some (.int .i64 N[i].line.mark)):=fun W' hb=>
        ⟨(hb.cell (p:=⟨W.heap.size,0,none⟩) hpl).trans hc1,(hb.cell (p:=⟨b,o+i*4,none⟩) hab).trans y0,(hb.cell (p:=⟨b,o+i*4+1,none⟩) hab).trans y1,(hb.cell (p:=⟨b,o+i*4+2,none⟩) hab).trans y2⟩
       generalize N[i].line=r at *;have hi0:(0:Int)≤(i:Int):=by omega
       have hi1:(i:Int)<(N.length:Int):=by omega
       have hl3:(f j).length+1+(R i).length≤200:=by
        have:=HL2.out;rw[HFJ.out]at this;simp at this;omega
       clear y0 y1 y2 hc1 HRB HRN;go_upto_region 13 with fail
       obtain⟨x0,x1,x2,x3⟩:=HCells.out wr HB.out;go_region_held3 (fun w'=>w'.cell? ⟨W.heap.size,0,none⟩=some (.slice (some ⟨b,o,none⟩) N.length c)∧w'.cell? ⟨b,o+i*4,none⟩=some (.int .i64 r.depth)∧w'.cell? ⟨b,o+i*4+1,none⟩=some (.string r.word)∧w'.cell? ⟨b,o+i*4+2,none⟩=some (.int .i64 r.mark)) (first|exact z8.1|exact z8.2.1|exact z8.2.2.1|exact z8.2.2.2|exact z7.1|exact z7.2.1|exact z7.2.2.1|exact z7.2.2.2|exact z5.1|exact z5.2.1|exact z5.2.2.1|exact z5.2.2.2|go_keep) (first|(refine Zuk rfl _ _ 26 rfl w1.heap.size _ 62 j0 _ 3 32 underlying26 hji hy0 hy1 hy2 rfl (by decide) (by decide) (v:=u8) (n:=(f j).length) (xs:=lines (f j)) (by first|(refine Zah HO5.out ?_;(repeat (first|with_reducible exact Yae _ _|with_reducible refine Below.drew ?_|with_reducible refine Below.alloc ?_ (by simp) _));done)|(refine Zah HO.out ?_;(repeat (first|with_reducible exact Yae _ _|with_reducible refine Below.drew ?_|with_reducible refine Below.alloc ?_ (by simp) _));done)) (by first|exact Yas HB7.out.size (by simp;done)|exact Yas HB5.out.size (by simp;done)|exact Yas HB.out.size (by simp;done)) (by rfl) (some ⟨_,0,none⟩) 1 1 (lines [r]) rfl (by repeat (first|with_reducible exact Zmg _ _ r|with_reducible exact(Zmg _ _ r).below HL5.out|with_reducible exact((Zmg _ _ r).drew).below HL5.out|with_reducible refine Rd.drew ?_|with_reducible refine Rd.alloc ?_ _)) (fun h=>by cases h) (Ziv _) (by omega) ?_;intro v7 w7 hown7 hb7 hg7 hk7;have HK7:=Zhd (hk7.own (by decide) (n:=S.length) (xs:=iv S) (v:= .slice (some ⟨q,0,none⟩) S.length c2) (base:=w1.heap.size) (k:=1) (e':=3) (by first|(refine Zah HK5.out ?_;(repeat (first|with_reducible exact Yae _ _|with_reducible refine Below.drew ?_|with_reducible refine Below.alloc ?_ (by simp) _));done)|(refine Zah HK.out ?_;(repeat (first|with_reducible exact Yae _ _|with_reducible refine Below.drew ?_|with_reducible refine Below.alloc ?_ (by simp) _));done)));have HO7:=Zhd hown7;have HW7:Hid (wr.heap.size≤w7.heap.size):=Yas (by first|exact Yas HW5.out (by simp;done)|(simp;done)) hb7.size;have HB7:Hid (Below w1.heap.size w1 w7):=Below.trans (by repeat (first|with_reducible exact HB7.out|with_reducible exact HB5.out|with_reducible exact HB.out|with_reducible refine Below.drew ?_|with_reducible refine Zeg ?_ _)) hb7;have z7:=HCells.out _ HB7.out;(first|(have HS7:=Zhd (Zasa (Zah HS5.out (by (repeat (first|with_reducible exact Yae _ _|with_reducible refine Below.drew ?_|with_reducible refine Below.alloc ?_ (by simp) _));done)) HO.out (Yag _) hg7))|skip);clear hown7 hb7 hg7 hk7)|(refine Zuk rfl _ _ 26 rfl w1.heap.size _ 62 j0 _ 3 32 underlying26 hji hy0 hy1 hy2 rfl (by decide) (by decide) (v:=v7) (n:=(f j).length+1) (xs:=lines (f j)++lines [r]) (by first|(refine Zah HO5.out ?_;(repeat (first|with_reducible exact Yae _ _|with_reducible refine Below.drew ?_|with_reducible refine Below.alloc ?_ (by simp) _));done)|(refine Zah HO7.out ?_;(repeat (first|with_reducible exact Yae _ _|with_reducible refine Below.drew ?_|with_reducible refine Below.alloc ?_ (by simp) _));done)) (by first|exact Yas HB7.out.size (by simp;done)|exact Yas HB5.out.size (by simp;done)|exact Yas HB.out.size (by simp;done)) (by rfl) A5 (R i).length c5 (lines (R i)) rfl (by repeat (first|with_reducible exact(Zor HS7.out).1|with_reducible exact(Zor HS5.out).1|with_reducible refine Rd.drew ?_|with_reducible refine Rd.alloc ?_ _)) HG5.out (Ziv _) (by omega) ?_;intro v8 w8 hown8 hb8 hg8 hk8;have HK8:=Zhd (hk8.own (by decide) (n:=S.length) (xs:=iv S) (v:= .slice (some ⟨q,0,none⟩) S.length c2) (base:=w1.heap.size) (k:=1) (e':=3) (by first|(refine Zah HK7.out ?_;(repeat (first|with_reducible exact Yae _ _|with_reducible refine Below.drew ?_|with_reducible refine Below.alloc ?_ (by simp) _));done)|(refine Zah HK5.out ?_;(repeat (first|with_reducible exact Yae _ _|with_reducible refine Below.drew ?_|with_reducible refine Below.alloc ?_ (by simp) _));done)));have HO8:=Zhd (Zawe hown8);have HB8:Hid (Below w1.heap.size w1 w8):=Below.trans (by repeat (first|with_reducible exact HB7.out|with_reducible exact HB5.out|with_reducible exact HB.out|with_reducible refine Below.drew ?_|with_reducible refine Zeg ?_ _)) hb8;have z8:=HCells.out _ HB8.out;clear hown8 hb8 hg8 hk8)|(go_at_call 74;refine(HRi.out _ ?hbt).mono ?_;(case hbt=>repeat (first|with_reducible exact HB7.out|with_reducible exact HB5.out|with_reducible exact HB.out|with_reducible refine Below.drew ?_|with_reducible refine Zeg ?_ _));unfold Zcd;rintro e w5 ⟨⟨v5,rfl,ho5⟩,hb5⟩;obtain⟨A5,c5,rfl,-,-,-,g4,-⟩:=Zcv ho5;have HL5:=Zhd hb5;have HB5:Hid (Below w1.heap.size w1 w5):=Zaa (by repeat (first|with_reducible exact HB7.out|with_reducible exact HB5.out|with_reducible exact HB.out|with_reducible refine Below.drew ?_|with_reducible refine Zeg ?_ _)) hb5;have HK5:=Zhd (Zah (n:=S.length) (xs:=iv S) (v:= .slice (some ⟨q,0,none⟩) S.length c2) (base:=w1.heap.size) (k:=1) (e:=3) (by first|(refine Zah HK7.out ?_;(repeat (first|with_reducible exact Yae _ _|with_reducible refine Below.drew ?_|with_reducible refine Below.alloc ?_ (by simp) _));done)|(refine Zah HK.out ?_;(repeat (first|with_reducible exact Yae _ _|with_reducible refine Below.drew ?_|with_reducible refine Below.alloc ?_ (by simp) _));done)) hb5);(first|(have HO5:=Zhd (Zah (n:=(f j).length+1) (xs:=lines (f j)++lines [r]) (v:=v7) (base:=w1.heap.size) (k:=3) (e:=62) (by refine Zah HO7.out ?_;(repeat (first|with_reducible exact Yae _ _|with_reducible refine Below.drew ?_|with_reducible refine Below.alloc ?_ (by simp) _));done) hb5))|(have HO5:=Zhd (Zah (n:=(f j).length) (xs:=lines (f j)) (v:=u8) (base:=w1.heap.size) (k:=3) (e:=62) (by refine Zah HO.out ?_;(repeat (first|with_reducible exact Yae _ _|with_reducible refine Below.drew ?_|with_reducible refine Below.alloc ?_ (by simp) _));done) hb5)));have HS5:=Zhd (Zlc (b2:=wr.heap.size) ho5 (by first|exact Yas HW7.out (by simp;done)|(simp;done)));have HW5:Hid (wr.heap.size≤w5.heap.size):=Yas (by first|exact Yas HW7.out (by simp;done)|(simp;done)) hb5.size;have HG5:=Zhd g4;have z5:=HCells.out _ HB5.out;clear ho5 hb5 g4))
       all_goals go_wp2_with fail
       all_goals go_roundw
       all_goals first
        |(simp[intOf];omega;done)
        |(refine⟨j+1,by go_num,by omega, ?_,HK8.out,HB8.out⟩;rw[HFJ.out];exact HO8.out)
     · have hje:j=S.length:=by omega
       subst hje;go_wp2;go_ret;exact⟨⟨_,rfl,Zlc HO.out HB1.out.size⟩,HB1.out.trans (HB.out.mono HB1.out.size)⟩
end Go.Proofs.Zq
namespace Prs
open Go Go.Lib Go.Sort Go.Proofs Tre Lx
def goB (en:Int):Nat→Pst→Int×Int×Pst
 |0,p=>(0,0,p)
 |k+1,p=>if p.l= []then(0,0,p)else if(stB en p).2.1≠0 then stB en p else goB en k (stB en p).2.2
structure Good (p:Pst):Prop where
 len:p.nodes.length≤200
 ups:Zwy p.nodes
 ap:Zpl p.nodes
 opn: ∀ k∈p.opn,k<p.nodes.length
theorem good_nil (l:List Tok):Good ⟨l,[],[]⟩:=⟨Yao _,fun _ h=>absurd h (Yeq _),fun _ _ h=>absurd h (Yeq _),fun _ h=>by cases h⟩
theorem Zyv: ∀ (l:List Tok) (b mk:Int) (ok:Bool) (l1:List Tok),Zcf b l=(mk,ok,l1)→l1.length≤l.length
 | [],b,mk,ok,l1,h=>by
   unfold Zcf at h;injection h with _ h;injection h with _ h
   rw[←h];exact Yag _
 | t ::r,b,mk,ok,l1,h=>by
   unfold Zcf at h;split at h
   · split at h
     · injection h with _ h;injection h with _ h
       rw[←h];exact Yag _
     · have:=Zyv r _ mk ok l1 h;simp;omega
   · injection h with _ h;injection h with _ h
     rw[←h];exact Yag _
theorem Zaeh {mk:Int} {p:Pst} {t:Tok} {r:List Tok} (hl:p.l=t::r) (h:(nameB mk p).1=0):
 (nameB mk p).2=⟨r,p.nodes++ [⟨⟨p.opn.length,t.word,mk⟩,topB p.opn⟩],p.opn⟩∧p.nodes.length<200∧p.opn.length<16∧Zwx p.nodes (topB p.opn) t.word=false:=by
 unfold nameB at h⊢;rw[hl]at h⊢;simp only at h⊢;split
 · rename_i h1;rw[Yan h1]at h;cases h
 · rename_i h1;rw[Yad h1]at h;split
   · rename_i h2;rw[Yan h2]at h;cases h
   · rename_i h2;rw[Yad h2]at h;split
     · rename_i h3;rw[Yan h3]at h;cases h
     · exact⟨rfl,by omega,by omega,by simpa using h2⟩
theorem Zde {N:List Nd} {n:Nd} {i:Nat} (h:i<N.length):Zaz (N++ [n]) i=Zaz N i:=by
 rw[Zfg (by simp;omega),Zfg h,Ydv h]
theorem Zgb {N:List Nd} {n:Nd}:Zaz (N++ [n]) N.length=n:=by
 rw[Zfg (by simp)];simp
theorem Zaym {o:List Nat} {m:Nat} (h: ∀ k∈o,k<m):topB o<m:=by
 unfold topB;cases hg:o.getLast? with
 |none=>simp only;omega
 | some k=>
   have:=h k (List.mem_of_getLast? hg);simp only;omega
theorem Zafh {N:List Nd} {u:Int} {s:ByteArray} (h:Zwx N u s=false) {i:Nat} (hi:i<N.length) (hu:(Zaz N i).up=u) (hs:(Zaz N i).line.word=s):False:=by
 unfold Zwx at h;rw[List.any_eq_false]at h;have:=h (Zaz N i) (by rw[Zfg hi];exact Yau hi)
 simp[hu,hs]at this
theorem Zyc {l r:List Tok} {N:List Nd} {o:List Nat} (h:Good ⟨l,N,o⟩) {d mk:Int} {s:ByteArray} (hn:N.length<200) (ht:Zwx N (topB o) s=false):
 Good ⟨r,N++ [⟨⟨d,s,mk⟩,topB o⟩],o⟩:=by
 obtain⟨h1,h2,h3,h4⟩:=h;simp only at h1 h2 h3 h4;refine⟨by simp;omega,fun i hi=> ?_,fun i j hi hj hu hs=> ?_,fun k hk=> ?_⟩
 · rw[Yak]at hi;simp only[Ybf,Ydx]at hi;rcases Ybr i N.length with hl|hl
   · rw[Zde hl];exact h2 i hl
   · obtain rfl:i=N.length:=by omega
     rw[Zgb];exact Zaym h4
 · rw [Yak]at hi hj;simp only[Ybf,Ydx]at hi hj;rcases Ybr i N.length with hl|hl
   · rcases Ybr j N.length with hk|hk
     · rw[Zde hl,Zde hk]at hu hs;exact h3 i j hl hk hu hs
     · obtain rfl:j=N.length:=by omega
       rw[Zde hl,Zgb]at hu hs;exact(Zafh ht hl hu hs).elim
   · obtain rfl:i=N.length:=by omega
     rcases Ybr j N.length with hk|hk
     · rw[Zde hk,Zgb]at hu hs;exact(Zafh ht hk hu.symm hs.symm).elim
     · omega
 · have:=h4 k hk;rw[Yak];simp;omega
theorem Zvs {en:Int} {p:Pst} (h:Good p) (hne:p.l≠ []) (he:(stB en p).2.1=0):Good (stB en p).2.2∧(stB en p).2.2.l.length<p.l.length:=by
 have hpos:0<p.l.length:=Ycw.2 hne;by_cases hk:(Zca en p.l).1=3
 · by_cases h0:p.opn.length=0
   · rw[Zsm hk h0]at he;cases he
   · rw[Zwu hk h0];refine⟨⟨h.len,h.ups,h.ap,fun k hk=>h.opn k (Yew hk)⟩, ?_⟩
     simp only[Yam];omega
 · rw [Zach hk]at he⊢;obtain⟨mk,ok,l1,hm⟩: ∃ mk ok l1,Zcf 0 p.l=(mk,ok,l1):=⟨_,_,_,rfl⟩;have hl1:=Zyv _ _ _ _ _ hm;cases ok with
   |false=>rw[Zwb hm]at he;cases he
   | true=>
     by_cases hz:(nameB mk ⟨l1,p.nodes,p.opn⟩).1=0
     · rw[Zwc hm hz]at he⊢;obtain⟨t1,r1,e1⟩:=Zps _ _ _ _ hm;obtain⟨e4,hn,-,ht⟩:=Zaeh (p:=⟨l1,p.nodes,p.opn⟩) e1 hz;rw[e4]at he⊢;have hg:Good ⟨p.l,p.nodes,p.opn⟩:=h;have hr:r1.length<p.l.length:=by rw[e1]at hl1;simp at hl1;omega
       by_cases h2:(Zca en r1).1=2
       · rw[Zvh h2];have g:=Zyc (r:=r1.drop 1) (d:=(p.opn.length:Nat)) (mk:=mk) hg hn ht;refine⟨⟨g.len,g.ups,g.ap,fun k hk=> ?_⟩,by simp only[Yam];omega⟩
         rcases Ybl.1 hk with hk|hk
         · exact g.opn k hk
         · simp at hk;simp;omega
       · by_cases h4:(Zca en r1).1=4
         · rw[Zaap h4];exact⟨Zyc (r:=r1.drop 1) hg hn ht,by simp only[Yam];omega⟩
         · rw[Zaao h2 h4]at he;cases he
     · rw[Zrk hm hz]at he;exact absurd he hz
theorem Zadm {en:Int}: ∀ {k m:Nat} {p:Pst},Good p→p.l.length≤k→p.l.length≤m→goB en k p=goB en m p
 | 0,m,p,_,h1,_=>by
   have hl:p.l= []:=Yar (by omega)
   cases m with
   |zero=>rfl
   |succ m=>unfold goB;rw[Yan hl]
 | k+1,0,p,_,_,h2=>by
   have hl:p.l= []:=Yar (by omega)
   unfold goB;rw[Yan hl]
 | k + 1,m+1,p,hg,h1,h2=>by
   unfold goB;by_cases hl:p.l= []
   · rw[Yan hl,Yan hl]
   · rw[Yad hl,Yad hl];by_cases he:(stB en p).2.1=0
     · obtain⟨g1,g2⟩:=Zvs hg hl he;rw[Yad (by simp[he]),Yad (by simp[he])]
       exact Zadm g1 (by omega) (by omega)
     · rw[Yan he,Yan he]
theorem Zavi (en:Int) (k:Nat) {p:Pst} (h:p.l= []):goB en k p=(0,0,p):=by
 cases k with
 |zero=>rfl
 |succ k=>unfold goB;rw[Yan h]
theorem Zavh {en:Int} {p:Pst} (hne:p.l≠ []) (he:(stB en p).2.1≠0):goB en p.l.length p=stB en p:=by
 obtain⟨m,hm⟩: ∃ m,p.l.length=m+1:=⟨p.l.length-1,by have:=Ycw.2 hne;omega⟩
 rw[hm];unfold goB;rw[Yad hne,Yan he]
theorem Zaqn {en:Int} {p:Pst} (hg:Good p) (hne:p.l≠ []) (he:(stB en p).2.1=0):goB en p.l.length p=goB en (stB en p).2.2.l.length (stB en p).2.2:=by
 obtain⟨g1,g2⟩:=Zvs hg hne he;obtain⟨m,hm⟩: ∃ m,p.l.length=m+1:=⟨p.l.length-1,by have:=Ycw.2 hne;omega⟩
 rw[hm]
 conv=>lhs;unfold goB
 rw[Yad hne,Yad (by simp[he])]
 exact Zadm g1 (by omega) (Yag _)
def Zlo (s:ByteArray):List Line×Int×Int:=
 let a:=allB s.data.toList
 if a.2.2≠0 then([],(a.2.1:Nat),a.2.2)
 else
  let r:=goB s.size a.1.length ⟨a.1,[],[]⟩
  if r.2.1≠0 then([],r.1,r.2.1)
  else if r.2.2.opn.length≠0 then([],(s.size:Nat),2)
  else(Zmk r.2.2.nodes.length r.2.2.nodes (-1),0,0)
end Prs
namespace Go.Proofs.Zq
open Tryz
open Go Go.RowKit Go.Sort Tre Lx Prs
theorem Zuj (N:List Nd) (hN:Zpl N) (hup:Zwy N) (hl2:N.length≤200): ∀ (k:Nat) (u:Int),(N.length:Int)≤u+1+k→ ∀ (A:Option Addr) (c:Nat) (W:World),Rd W 4 A N.length (nds N)→
 Calls prog 74 #[.slice A N.length c, .int .i64 u] W (Zcd W (Zmk k N u))
 | 0,u,hk,A,c,W,hR=>by
   have h0:=Zaqz hup (u:=u) (by omega)
   have h:=Zsj N u hN hl2 A c W hR (fun _=> []) (fun i hi=>by rw[h0]at hi;cases hi) (fun j=>by rw[h0];simp) (fun i hi=>by simp)
   rw[h0]at h;exact h
 | k+1,u,hk,A,c,W,hR=>by
   have h:=Zsj N u hN hl2 A c W hR (fun i=>Zmk k N (i:Nat)) (fun i hi W' hb=>Zuj N hN hup hl2 k i (by have:=Zol hup hi;omega) A c W' (hR.below hb))
    (fun j=>Yas (Ztf hup k u j) hl2) (fun i _=>Yas (Zsf hup k _) hl2)
   exact h
end Go.Proofs.Zq
