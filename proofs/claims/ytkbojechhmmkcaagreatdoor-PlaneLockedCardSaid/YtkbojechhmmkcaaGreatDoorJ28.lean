import Derived.Test.YtkbojechhmmkcaaGreatDoorJ27
set_option linter.unusedVariables false
set_option linter.unusedSimpArgs false
set_option maxHeartbeats 4000000
set_option maxRecDepth 100000
namespace Edt
open Go Go.Lib Tre Sch Lns Prs
structure Opp where
 kind:Int
 path:List ByteArray
 word:ByteArray
 bit:Int
 n:Int
 text:ByteArray
def Zdt (S:Ps) (o:Opp) (k:Nat):List Line×Int×Int:=
 let t:=(S.ses k).mine
 if o.kind=5 then((setB t o.path).1,(setB t o.path).2,0)
 else if o.kind=6 then((delB t o.path).1,(delB t o.path).2,0)
 else if o.kind=7 then((Zgr t o.path o.bit true).1,(Zgr t o.path o.bit true).2,0)
 else if o.kind=8 then((Zgr t o.path o.bit false).1,(Zgr t o.path o.bit false).2,0)
 else if o.kind=9 then((renB t o.path o.word).1,(renB t o.path o.word).2,0)
 else if o.kind=10 then((Zjl t o.path o.word).1,(Zjl t o.path o.word).2,0)
 else if o.kind=11 then((Zlo o.text).1,(Zlo o.text).2.2,(Zlo o.text).2.1)
 else if o.kind=12 then if o.n<0∨(S.revs.length:Int)≤o.n then([],3,0)else((S.revs[S.revs.length-1-o.n.toNat]?.getD (0,[])).2,0,0)
 else(t,0,0)
end Edt
namespace Go.Proofs.Zq
open Tryz
open Go Go.RowKit Go.Sort Tre Lx Prs Lns Edt Sch
theorem Zuu (C:Array Value) (S:Ps) (o:Opp) (k:Nat) (Ap:Option Addr) (cp:Nat) (w:World) (hP:PlC w C S) (hk:k<3) (hR:Rd w 1 Ap o.path.length (sv o.path)) (hcp:o.path.length≤cp) (hc2:cp≤maxLen) (hlP:o.path.length≤1000000) (htx:o.text.size≤1000000) (hE:Env w) (hr:Zab (S.ses k).mine=true) (hrl:S.revs.length≤1000):
 Calls prog 25 #[.agg C, .agg #[.int .i64 o.kind, .int .i64 (k:Int), .slice Ap o.path.length cp, .string o.word, .int .i64 o.bit, .int .i64 o.n, .string o.text]] w (Zds (Zdt S o k) w):=by
 have hcs:=hP.size;obtain⟨wp,hwp⟩: ∃ wp,w.alloc (.cells C 32)=wp:=⟨_,rfl⟩;obtain⟨wo,hwo⟩: ∃ wo,wp.alloc (.cells #[.int .i64 o.kind, .int .i64 (k:Int), .slice Ap o.path.length cp, .string o.word, .int .i64 o.bit, .int .i64 o.n, .string o.text] 36)=wo:=⟨_,rfl⟩;obtain⟨wr,hwr⟩: ∃ wr,wo.alloc (.cells #[.int .i64 0, .int .i64 0] 39)=wr:=⟨_,rfl⟩;have hs1:w.heap.size<wp.heap.size:=by rw[←hwp];simp
 have hs2:wp.heap.size<wo.heap.size:=by rw[←hwo];simp
 have hs3:wo.heap.size<wr.heap.size:=by rw[←hwr];simp
 have Bp:Bl wr w.heap.size C 32:=by rw[←hwr,←hwo,←hwp];exact((Bl.new _ _ _).alloc _).alloc _
 have Bo:Bl wr wp.heap.size #[.int .i64 o.kind, .int .i64 (k:Int), .slice Ap o.path.length cp, .string o.word, .int .i64 o.bit, .int .i64 o.n, .string o.text] 36:=by rw[←hwr,←hwo];exact(Bl.new _ _ _).alloc _
 have Br:Bl wr wo.heap.size #[.int .i64 0, .int .i64 0] 39:=by rw[←hwr];exact Bl.new _ _ _
 have HB:Hid (Below w.heap.size w wr):=by
  show Below _ _ _;rw[←hwr,←hwo,←hwp];refine Below.alloc (Below.alloc (Below.alloc (Yae _ _) (Yag _) _) ?_ _) ?_ _<;>simp<;>omega
 obtain⟨v2,ev2,hm1⟩:=hP.mine k hk;obtain⟨A2,c2,rfl,hl1,hl2,hl3,hl4⟩:=hm1;obtain⟨Ar,nr,cr,er,hrv⟩:=hP.revs;have px2:wr.cell? ⟨w.heap.size,2+k*3+2,none⟩=some (.slice A2 (S.ses k).mine.length c2):=(Bp.cell _).trans ev2;have px1:wr.cell? ⟨w.heap.size,1,none⟩=some (.slice Ar nr cr):=(Bp.cell _).trans er;have ox0:wr.cell? ⟨wp.heap.size,0,none⟩=some (.int .i64 o.kind):=(Bo.cell _).trans rfl;have ox1:wr.cell? ⟨wp.heap.size,1,none⟩=some (.int .i64 (k:Int)):=(Bo.cell _).trans rfl;have ox2:wr.cell? ⟨wp.heap.size,2,none⟩=some (.slice Ap o.path.length cp):=(Bo.cell _).trans rfl;have ox3:wr.cell? ⟨wp.heap.size,3,none⟩=some (.string o.word):=(Bo.cell _).trans rfl;have ox4:wr.cell? ⟨wp.heap.size,4,none⟩=some (.int .i64 o.bit):=(Bo.cell _).trans rfl;have ox5:wr.cell? ⟨wp.heap.size,5,none⟩=some (.int .i64 o.n):=(Bo.cell _).trans rfl;have ox6:wr.cell? ⟨wp.heap.size,6,none⟩=some (.string o.text):=(Bo.cell _).trans rfl;have rx0:wr.cell? ⟨wo.heap.size,0,none⟩=some (.int .i64 0):=(Br.cell _).trans rfl;have rx1:wr.cell? ⟨wo.heap.size,1,none⟩=some (.int .i64 0):=(Br.cell _).trans rfl;have rf: ∀ j,wr.frozen? ⟨wo.heap.size,j,none⟩=false:=Br.froz;have HBr:Hid (∀ W,Below wr.heap.size wr W→Bl W wo.heap.size #[.int .i64 0, .int .i64 0] 39):=fun W hb=>Br.below hb
 have fin: ∀ (W:World) (v:Value) (M:List Line),Below wr.heap.size wr W→Lr W v M→ ∀ x y,Lr ((W.setCell ⟨wo.heap.size,0,none⟩ x).setCell ⟨wo.heap.size,1,none⟩ y) v M∧Below w.heap.size w ((W.setCell ⟨wo.heap.size,0,none⟩ x).setCell ⟨wo.heap.size,1,none⟩ y):=fun W v M hb hl x y=>
  ⟨hl.off (HBr.out _ hb) rfl (((Off.refl _ _).setCell 0 x).setCell 1 y),((Zaa HB.out hb).setCell (p:=⟨_,_,none⟩) (by show _≤wo.heap.size;omega) _).setCell (p:=⟨_,_,none⟩) (by show _≤wo.heap.size;omega) _⟩
 have FIN:=Zhd fin;have hb0:=HB.out;have HS:=Zhd (Zawn A2 c2 _ Ap cp o.path wr (hl3.below hb0) hl1 hl2 hl4 hr (hR.below hb0) hcp hc2 hlP);have HD:=Zhd (Zagf A2 c2 _ Ap cp o.path wr (hl3.below hb0) hl1 hl2 hl4 hr (hR.below hb0) hcp hc2);have HM:=Zhd (fun on=>Zakd A2 c2 _ Ap cp o.path o.bit on wr (hl3.below hb0) hl1 hl2 hl4 hr (hR.below hb0) hcp hc2)
 have HN:=Zhd (Zawj A2 c2 _ Ap cp o.path o.word wr (hl3.below hb0) hl1 hl2 hl4 hr (hR.below hb0) hcp hc2 hlP);have HCp:=Zhd (Zapr A2 c2 _ Ap cp o.path o.word wr (hl3.below hb0) hl1 hl2 hl4 hr (hR.below hb0) hcp hc2 hlP);have HT:=Zhd (Zati o.text wr (hE.below hb0) htx);have HL0:=Zhd (show Lr w (.slice A2 (S.ses k).mine.length c2) (S.ses k).mine from⟨A2,c2,rfl,hl1,hl2,hl3,hl4⟩)
 have HRV:=Zhd hrv;have hnr:nr=S.revs.length:=by
  obtain⟨-,-,-,Q,h1,h2,-⟩:=hrv;rw[←h1,←h2,Yaz]
 have hki:(k:Int)<3:=by omega
 have hk0:(0:Int)≤(k:Int):=by omega
 obtain⟨z,hz0⟩: ∃ z,Zdt S o k=z:=⟨_,rfl⟩;rw[hz0];have hz:=Zhd hz0;clear hz0 Bo fin hb0 hl3 hl4 hR hrv ev2 er Br Bp hE;by_cases k5:o.kind=5
 · have HZ:Hid (z=((setB (S.ses k).mine o.path).1,(setB (S.ses k).mine o.path).2,0)):=by
    show z=_;rw[←hz.out];unfold Zdt;rw[Yan k5]
   rw[k5]at ox0;clear k5;go_enter func25,ntmps25;go_wp2_with fail;go_at_call 35;refine HS.out.mono ?_;rintro e w5 ⟨⟨v5,rfl,hl5⟩,hb5⟩;have HL5:=Zhd hl5;have HB5:=Zhd hb5;have Br5:=HBr.out _ hb5;have rx0':w5.cell? ⟨wo.heap.size,0,none⟩=some (.int .i64 0):=(Br5.cell _).trans rfl;have rx1':w5.cell? ⟨wo.heap.size,1,none⟩=some (.int .i64 0):=(Br5.cell _).trans rfl;have rf': ∀ j,w5.frozen? ⟨wo.heap.size,j,none⟩=false:=Br5.froz;clear hl5 hb5 Br5 hwr hwo hwp;obtain⟨r,hr⟩: ∃ r,setB (S.ses k).mine o.path=r:=⟨_,rfl⟩;rw[hr]at HZ HL5⊢;clear hr;go_wp2_with fail;refine bodyPost_ret (v:= .tuple #[v5, .agg #[.int .i64 r.2, .int .i64 0]]) (by simp[results,results25,go_sem, *]) rfl ?_
   unfold Zds;rw[HZ.out];obtain⟨l9,b9⟩:=FIN.out _ _ _ HB5.out HL5.out (.int .i64 r.2) (.int .i64 0);exact⟨⟨_,rfl,l9⟩,b9⟩
 have hq5:(o.kind==5)=false:=by rw[Yai];exact k5
 by_cases k6:o.kind=6
 · have HZ:Hid (z=((delB (S.ses k).mine o.path).1,(delB (S.ses k).mine o.path).2,0)):=by
    show z=_;rw[←hz.out];unfold Zdt;rw[Yad k5,Yan k6]
   rw[k6]at ox0;clear k6;go_enter func25,ntmps25;go_wp2_with fail;go_at_call 36;refine HD.out.mono ?_;rintro e w5 ⟨⟨v5,rfl,hl5⟩,hb5⟩;have HL5:=Zhd hl5;have HB5:=Zhd hb5;have Br5:=HBr.out _ hb5;have rx0':w5.cell? ⟨wo.heap.size,0,none⟩=some (.int .i64 0):=(Br5.cell _).trans rfl;have rx1':w5.cell? ⟨wo.heap.size,1,none⟩=some (.int .i64 0):=(Br5.cell _).trans rfl;have rf': ∀ j,w5.frozen? ⟨wo.heap.size,j,none⟩=false:=Br5.froz;clear hl5 hb5 Br5 hwr hwo hwp;obtain⟨r,hr⟩: ∃ r,delB (S.ses k).mine o.path=r:=⟨_,rfl⟩;rw[hr]at HZ HL5⊢;clear hr;go_wp2_with fail;refine bodyPost_ret (v:= .tuple #[v5, .agg #[.int .i64 r.2, .int .i64 0]]) (by simp[results,results25,go_sem, *]) rfl ?_
   unfold Zds;rw[HZ.out];obtain⟨l9,b9⟩:=FIN.out _ _ _ HB5.out HL5.out (.int .i64 r.2) (.int .i64 0);exact⟨⟨_,rfl,l9⟩,b9⟩
 have hq6:(o.kind==6)=false:=by rw[Yai];exact k6
 by_cases k7:o.kind=7
 · have HZ:Hid (z=((Zgr (S.ses k).mine o.path o.bit true).1,(Zgr (S.ses k).mine o.path o.bit true).2,0)):=by
    show z=_;rw[←hz.out];unfold Zdt;rw[Yad k5,Yad k6,Yan k7]
   rw[k7]at ox0;clear k7;go_enter func25,ntmps25;go_wp2_with fail;go_at_call 37;refine(HM.out true).mono ?_;rintro e w5 ⟨⟨v5,rfl,hl5⟩,hb5⟩;have HL5:=Zhd hl5;have HB5:=Zhd hb5;have Br5:=HBr.out _ hb5;have rx0':w5.cell? ⟨wo.heap.size,0,none⟩=some (.int .i64 0):=(Br5.cell _).trans rfl;have rx1':w5.cell? ⟨wo.heap.size,1,none⟩=some (.int .i64 0):=(Br5.cell _).trans rfl;have rf': ∀ j,w5.frozen? ⟨wo.heap.size,j,none⟩=false:=Br5.froz;clear hl5 hb5 Br5 hwr hwo hwp;obtain⟨r,hr⟩: ∃ r,Zgr (S.ses k).mine o.path o.bit true=r:=⟨_,rfl⟩;rw[hr]at HZ HL5⊢;clear hr;go_wp2_with fail;refine bodyPost_ret (v:= .tuple #[v5, .agg #[.int .i64 r.2, .int .i64 0]]) (by simp[results,results25,go_sem, *]) rfl ?_
   unfold Zds;rw[HZ.out];obtain⟨l9,b9⟩:=FIN.out _ _ _ HB5.out HL5.out (.int .i64 r.2) (.int .i64 0);exact⟨⟨_,rfl,l9⟩,b9⟩
 have hq7:(o.kind==7)=false:=by rw[Yai];exact k7
 by_cases k8:o.kind=8
 · have HZ:Hid (z=((Zgr (S.ses k).mine o.path o.bit false).1,(Zgr (S.ses k).mine o.path o.bit false).2,0)):=by
    show z=_;rw[←hz.out];unfold Zdt;rw[Yad k5,Yad k6,Yad k7,Yan k8]
   rw[k8]at ox0;clear k8;go_enter func25,ntmps25;go_wp2_with fail;go_at_call 37;refine(HM.out false).mono ?_;rintro e w5 ⟨⟨v5,rfl,hl5⟩,hb5⟩;have HL5:=Zhd hl5;have HB5:=Zhd hb5;have Br5:=HBr.out _ hb5;have rx0':w5.cell? ⟨wo.heap.size,0,none⟩=some (.int .i64 0):=(Br5.cell _).trans rfl;have rx1':w5.cell? ⟨wo.heap.size,1,none⟩=some (.int .i64 0):=(Br5.cell _).trans rfl;have rf': ∀ j,w5.frozen? ⟨wo.heap.size,j,none⟩=false:=Br5.froz;clear hl5 hb5 Br5 hwr hwo hwp;obtain⟨r,hr⟩: ∃ r,Zgr (S.ses k).mine o.path o.bit false=r:=⟨_,rfl⟩;rw[hr]at HZ HL5⊢;clear hr;go_wp2_with fail;refine bodyPost_ret (v:= .tuple #[v5, .agg #[.int .i64 r.2, .int .i64 0]]) (by simp[results,results25,go_sem, *]) rfl ?_
   unfold Zds;rw[HZ.out];obtain⟨l9,b9⟩:=FIN.out _ _ _ HB5.out HL5.out (.int .i64 r.2) (.int .i64 0);exact⟨⟨_,rfl,l9⟩,b9⟩
 have hq8:(o.kind==8)=false:=by rw[Yai];exact k8
 by_cases k9:o.kind=9
 · have HZ:Hid (z=((renB (S.ses k).mine o.path o.word).1,(renB (S.ses k).mine o.path o.word).2,0)):=by
    show z=_;rw[←hz.out];unfold Zdt;rw[Yad k5,Yad k6,Yad k7,Yad k8,Yan k9]
   rw[k9]at ox0;clear k9;go_enter func25,ntmps25;go_wp2_with fail;go_at_call 38;refine HN.out.mono ?_;rintro e w5 ⟨⟨v5,rfl,hl5⟩,hb5⟩;have HL5:=Zhd hl5;have HB5:=Zhd hb5;have Br5:=HBr.out _ hb5;have rx0':w5.cell? ⟨wo.heap.size,0,none⟩=some (.int .i64 0):=(Br5.cell _).trans rfl;have rx1':w5.cell? ⟨wo.heap.size,1,none⟩=some (.int .i64 0):=(Br5.cell _).trans rfl;have rf': ∀ j,w5.frozen? ⟨wo.heap.size,j,none⟩=false:=Br5.froz;clear hl5 hb5 Br5 hwr hwo hwp;obtain⟨r,hr⟩: ∃ r,renB (S.ses k).mine o.path o.word=r:=⟨_,rfl⟩;rw[hr]at HZ HL5⊢;clear hr;go_wp2_with fail;refine bodyPost_ret (v:= .tuple #[v5, .agg #[.int .i64 r.2, .int .i64 0]]) (by simp[results,results25,go_sem, *]) rfl ?_
   unfold Zds;rw[HZ.out];obtain⟨l9,b9⟩:=FIN.out _ _ _ HB5.out HL5.out (.int .i64 r.2) (.int .i64 0);exact⟨⟨_,rfl,l9⟩,b9⟩
 have hq9:(o.kind==9)=false:=by rw[Yai];exact k9
 by_cases k10:o.kind=10
 · have HZ:Hid (z=((Zjl (S.ses k).mine o.path o.word).1,(Zjl (S.ses k).mine o.path o.word).2,0)):=by
    show z=_;rw[←hz.out];unfold Zdt;rw[Yad k5,Yad k6,Yad k7,Yad k8,Yad k9,Yan k10]
   rw[k10]at ox0;clear k10;go_enter func25,ntmps25;go_wp2_with fail;go_at_call 39;refine HCp.out.mono ?_;rintro e w5 ⟨⟨v5,rfl,hl5⟩,hb5⟩;have HL5:=Zhd hl5;have HB5:=Zhd hb5;have Br5:=HBr.out _ hb5;have rx0':w5.cell? ⟨wo.heap.size,0,none⟩=some (.int .i64 0):=(Br5.cell _).trans rfl;have rx1':w5.cell? ⟨wo.heap.size,1,none⟩=some (.int .i64 0):=(Br5.cell _).trans rfl;have rf': ∀ j,w5.frozen? ⟨wo.heap.size,j,none⟩=false:=Br5.froz;clear hl5 hb5 Br5 hwr hwo hwp;obtain⟨r,hr⟩: ∃ r,Zjl (S.ses k).mine o.path o.word=r:=⟨_,rfl⟩;rw[hr]at HZ HL5⊢;clear hr;go_wp2_with fail;refine bodyPost_ret (v:= .tuple #[v5, .agg #[.int .i64 r.2, .int .i64 0]]) (by simp[results,results25,go_sem, *]) rfl ?_
   unfold Zds;rw[HZ.out];obtain⟨l9,b9⟩:=FIN.out _ _ _ HB5.out HL5.out (.int .i64 r.2) (.int .i64 0);exact⟨⟨_,rfl,l9⟩,b9⟩
 have hq10:(o.kind==10)=false:=by rw[Yai];exact k10
 by_cases k11:o.kind=11
 · have HZ:Hid (z=((Zlo o.text).1,(Zlo o.text).2.2,(Zlo o.text).2.1)):=by
    show z=_;rw[←hz.out];unfold Zdt;rw[Yad k5,Yad k6,Yad k7,Yad k8,Yad k9,Yad k10,Yan k11]
   rw[k11]at ox0;clear k11;go_enter func25,ntmps25;go_wp2_with fail;go_at_call 40;refine HT.out.mono ?_;rintro e w5 ⟨⟨v5,rfl,ho5⟩,hb5⟩;have hl5:=Lr.own ho5;clear ho5;have HL5:=Zhd hl5;have HB5:=Zhd hb5;have Br5:=HBr.out _ hb5;have rx0':w5.cell? ⟨wo.heap.size,0,none⟩=some (.int .i64 0):=(Br5.cell _).trans rfl;have rx1':w5.cell? ⟨wo.heap.size,1,none⟩=some (.int .i64 0):=(Br5.cell _).trans rfl;have rf': ∀ j,w5.frozen? ⟨wo.heap.size,j,none⟩=false:=Br5.froz;clear hl5 hb5 Br5 hwr hwo hwp;obtain⟨r,hr⟩: ∃ r,Zlo o.text=r:=⟨_,rfl⟩;rw[hr]at HZ HL5⊢;clear hr;go_wp2_with fail;refine bodyPost_ret (v:= .tuple #[v5, .agg #[.int .i64 r.2.2, .int .i64 r.2.1]]) (by simp[results,results25,go_sem, *]) rfl ?_
   unfold Zds;rw[HZ.out];obtain⟨l9,b9⟩:=FIN.out _ _ _ HB5.out HL5.out (.int .i64 r.2.2) (.int .i64 r.2.1);exact⟨⟨_,rfl,l9⟩,b9⟩
 have hq11:(o.kind==11)=false:=by rw[Yai];exact k11
 by_cases k12:o.kind=12
 · rw [k12]at ox0;by_cases hn0:o.n<0
   · have HZ:Hid (z=([],3,0)):=by
      show z=_;rw[←hz.out];unfold Zdt;rw[Yad k5,Yad k6,Yad k7,Yad k8,Yad k9,Yad k10,Yad k11,Yan k12,Yan (.inl hn0)]
     clear k12;go_enter func25,ntmps25;go_wp2_with fail;refine bodyPost_ret (v:= .tuple #[(.slice none 0 0), .agg #[.int .i64 3, .int .i64 0]]) (by simp[results,results25,go_sem, *]) rfl ?_
     unfold Zds;rw[HZ.out];obtain⟨l9,b9⟩:=FIN.out _ _ _ (Yae _ _) (Zcu _) (.int .i64 3) (.int .i64 0);exact⟨⟨_,rfl,l9⟩,b9⟩
   by_cases hn1:(nr:Int)≤o.n
   · have HZ:Hid (z=([],3,0)):=by
      show z=_;rw[←hz.out];unfold Zdt;rw[Yad k5,Yad k6,Yad k7,Yad k8,Yad k9,Yad k10,Yad k11,Yan k12,Yan (.inr (by rw[←hnr];exact hn1))]
     clear k12;go_enter func25,ntmps25;go_wp2_with fail;refine bodyPost_ret (v:= .tuple #[(.slice none 0 0), .agg #[.int .i64 3, .int .i64 0]]) (by simp[results,results25,go_sem, *]) rfl ?_
     unfold Zds;rw[HZ.out];obtain⟨l9,b9⟩:=FIN.out _ _ _ (Yae _ _) (Zcu _) (.int .i64 3) (.int .i64 0);exact⟨⟨_,rfl,l9⟩,b9⟩
   obtain⟨m,hm⟩: ∃ m:Nat,o.n=(m:Int):=⟨o.n.toNat,by omega⟩
   obtain⟨q,hq⟩: ∃ q:Nat,nr=q+1+m:=⟨nr-1-m,by omega⟩
   have hq2:S.revs.length-1-o.n.toNat=q:=by omega
   obtain⟨y1,y2,y3,Q,h1,h2,h3,h4,-⟩:=HRV.out;have hqQ:q<Q.length:=by omega
   obtain⟨ad,rfl,hbl,hx⟩:=(h3.below HB.out).2 (by omega)
   have hsp:ad.spot=none:=by
    have h00:=hx 0 _ (Zmj Q 0 (by omega)).1
    have h2:=World.cell?_spot h00;have h3:ad.add 0=ad:=by simp[Addr.add]
    rwa [h3]at h2
   obtain⟨b,of,sp⟩:=ad;obtain rfl:sp=none:=hsp;have hlq:=h4 Q[q] (Yau hqQ);obtain⟨Aq,nq,cq,eq⟩:=hlq.slice;have hcq:=hx _ _ (Zmj Q q hqQ).2;rw[eq]at hcq hlq;rw[Zag,←Ydh]at hcq;have HLQ:=Zhd (hlq.below HB.out)
   have hres:(S.revs[S.revs.length-1-o.n.toNat]?.getD (0,[])).2=Q[q].2.2:=by
    rw[hq2,←h2,Ycy,Yaj hqQ];rfl
   have HZ:Hid (z=(Q[q].2.2,0,0)):=by
    show z=_;rw[←hz.out];unfold Zdt;rw[Yad k5,Yad k6,Yad k7,Yad k8,Yad k9,Yad k10,Yad k11,Yan k12,Yad (by rw[←hnr];omega),hres]
   clear k12 hres hq2 h1 h2 h3 h4 hx hlq eq;generalize Q[q].2.2=M at *;rw[hm]at ox5 hn0 hn1;have hw1:IntKind.i64.wrap ((nr:Int)-1)=(nr:Int)-1:=by rw[IntKind.wrap_i64];omega
   have hw2:IntKind.i64.wrap ((nr:Int)-1-(m:Int))=(q:Int):=by rw[IntKind.wrap_i64];omega
   have hi1:(q:Int)<(nr:Int):=by omega
   have hi2:(0:Int)≤(q:Int):=by omega
   clear hq hm hnr;go_enter func25,ntmps25;go_wp2_with fail;refine bodyPost_ret (v:= .tuple #[(.slice Aq nq cq), .agg #[.int .i64 0, .int .i64 0]]) (by simp[results,results25,go_sem, *]) rfl ?_
   unfold Zds;rw[HZ.out];obtain⟨l9,b9⟩:=FIN.out _ _ _ (Yae _ _) HLQ.out (.int .i64 0) (.int .i64 0);exact⟨⟨_,rfl,l9⟩,b9⟩
 have hq12:(o.kind==12)=false:=by rw[Yai];exact k12
 have HZ:Hid (z=((S.ses k).mine,0,0)):=by
  show z=_;rw[←hz.out];unfold Zdt;rw[Yad k5,Yad k6,Yad k7,Yad k8,Yad k9,Yad k10,Yad k11,Yad k12]
 clear k5 k6 k7 k8 k9 k10 k11 k12;go_enter func25,ntmps25;go_wp2_with fail;refine bodyPost_ret (v:= .tuple #[(.slice A2 (S.ses k).mine.length c2), .agg #[.int .i64 0, .int .i64 0]]) (by simp[results,results25,go_sem, *]) rfl ?_
 unfold Zds;rw[HZ.out];obtain⟨l9,b9⟩:=FIN.out _ _ _ (Yae _ _) (HL0.out.below HB.out) (.int .i64 0) (.int .i64 0);exact⟨⟨_,rfl,l9⟩,b9⟩
def eqL:List Line→List Line→Bool
 | [],[]=>true
 |a::L,b::M=>(a.depth==b.depth&&(a.word.toList==b.word.toList&&a.mark==b.mark))&&eqL L M
 |_,_=>false
theorem Zake: ∀ (L M:List Line),L.length≠M.length→eqL L M=false
 | [],[],h=>absurd rfl h
 | [],_::_,_=>rfl
 |_::_,[],_=>rfl
 |a::L,b::M,h=>by rw[eqL,Zake L M (fun e=>h (by simp[e])),Bool.and_false]
theorem Zagi (A A2:Option Addr) (c c2:Nat) (L M:List Line) (w:World) (hR:Rd w 3 A L.length (lines L)) (hR2:Rd w 3 A2 M.length (lines M)) (hl:L.length≤maxLen) (hl2:M.length≤maxLen):
 Calls prog 34 #[.slice A L.length c, .slice A2 M.length c2] w fun e w'=>e= .returned (.bool (eqL L M))∧Below w.heap.size w w':=by
 unfold maxLen at hl hl2;have HR:=Zhd hR;have HR2:=Zhd hR2;clear hR hR2;by_cases hn:L.length=M.length
 · rw [←hn];have HN:=Zhd hn;clear hn hl2;go_enter func34,ntmps34;go_wp2;go_loopw [13] (fun vi wr=> ∃ k:Nat,k≤L.length∧vi= .int .i64 k∧Hid (eqL L M=eqL (L.drop k) (M.drop k))∧Below w.heap.size w wr) (fun vi _=>L.length-(intOf vi).toNat)
   case atStart=>exact⟨0,Yao _,rfl,rfl,Yae _ _⟩
   case round=>
    obtain⟨k,hk,rfl,HQ,hbw⟩:=hrel;by_cases hlt:k<L.length
    · have hlt2:k<M.length:=by have:=HN.out;omega
      obtain⟨B,O,rfl,hB,hadd,x0,x1,x2⟩:=(HR.out.below hbw).line hlt;obtain⟨B2,O2,rfl,hB2,hadd2,y0,y1,y2⟩:=(HR2.out.below hbw).line hlt2;have hq:=HQ.out;rw[Yay hlt,Yay hlt2,eqL]at hq;clear HQ;generalize L[k]=a at *;generalize M[k]=b at *;obtain⟨d1,s1,m1⟩:=a;obtain⟨d2,s2,m2⟩:=b;by_cases hd:d1=d2
      · subst hd;by_cases hs:s1.toList=s2.toList
        · have e4:(s1.toList==s2.toList)=true:=by rw[beq_iff_eq];exact hs
          by_cases hm:m1=m2
          · subst hm;have HQ2:Hid (eqL L M=eqL (L.drop (k+1)) (M.drop (k+1))):=by show _=_;rw[hq];simp[e4]
            clear hq hs;go_wp2_with fail;go_region_held3 (fun W=>W.cell? ⟨B,O+k*3,none⟩=some (.int .i64 d1)∧W.cell? ⟨B,O+k*3+1,none⟩=some (.string s1)∧W.cell? ⟨B,O+k*3+2,none⟩=some (.int .i64 m1)∧W.cell? ⟨B2,O2+k*3,none⟩=some (.int .i64 d1)∧W.cell? ⟨B2,O2+k*3+1,none⟩=some (.string s2)∧W.cell? ⟨B2,O2+k*3+2,none⟩=some (.int .i64 m1)) (go_keep) ((fail))
            go_wp2_with fail;go_roundw
            case rel=>
             exact⟨k+1,by omega,by go_num,HQ2,hbw.drew⟩
            case measure=>simp[intOf];omega
          · have e3:(m1==m2)=false:=by rw[Yai];exact hm
            have HQ2:Hid (eqL L M=false):=by show _=_;rw[hq];simp[e3]
            clear hq;go_wp2_with fail;go_region_held3 (fun W=>W.cell? ⟨B,O+k*3,none⟩=some (.int .i64 d1)∧W.cell? ⟨B,O+k*3+1,none⟩=some (.string s1)∧W.cell? ⟨B,O+k*3+2,none⟩=some (.int .i64 m1)∧W.cell? ⟨B2,O2+k*3,none⟩=some (.int .i64 d1)∧W.cell? ⟨B2,O2+k*3+1,none⟩=some (.string s2)∧W.cell? ⟨B2,O2+k*3+2,none⟩=some (.int .i64 m2)) (go_keep) ((fail))
            go_wp2_with fail;go_ret;rw[HQ2.out];exact⟨rfl,hbw.drew⟩
        · have e3:(s1.toList==s2.toList)=false:=by rw[Yai];exact hs
          have HQ2:Hid (eqL L M=false):=by show _=_;rw[hq];simp[e3]
          clear hq;go_wp2_with fail;go_region_held3 (fun W=>W.cell? ⟨B,O+k*3,none⟩=some (.int .i64 d1)∧W.cell? ⟨B,O+k*3+1,none⟩=some (.string s1)∧W.cell? ⟨B,O+k*3+2,none⟩=some (.int .i64 m1)∧W.cell? ⟨B2,O2+k*3,none⟩=some (.int .i64 d1)∧W.cell? ⟨B2,O2+k*3+1,none⟩=some (.string s2)∧W.cell? ⟨B2,O2+k*3+2,none⟩=some (.int .i64 m2)) (go_keep) ((fail))
          go_wp2_with fail;go_ret;rw[HQ2.out];exact⟨rfl,hbw.drew⟩
      · have e3:(d1==d2)=false:=by rw[Yai];exact hd
        have HQ2:Hid (eqL L M=false):=by show _=_;rw[hq];simp[e3]
        clear hq;go_wp2_with fail;go_region_held3 (fun W=>W.cell? ⟨B,O+k*3,none⟩=some (.int .i64 d1)∧W.cell? ⟨B,O+k*3+1,none⟩=some (.string s1)∧W.cell? ⟨B,O+k*3+2,none⟩=some (.int .i64 m1)∧W.cell? ⟨B2,O2+k*3,none⟩=some (.int .i64 d2)∧W.cell? ⟨B2,O2+k*3+1,none⟩=some (.string s2)∧W.cell? ⟨B2,O2+k*3+2,none⟩=some (.int .i64 m2)) (go_keep) ((fail))
        go_wp2_with fail;go_ret;rw[HQ2.out];exact⟨rfl,hbw.drew⟩
    · have hke:k=L.length:=by omega
      have HQ2:Hid (eqL L M=true):=by show _=_;rw[HQ.out,hke,Ydi,HN.out,Ydi];rfl
      subst hke;clear HQ;go_wp2;go_ret;rw[HQ2.out];exact⟨rfl,hbw⟩
 · have HQ2:Hid (eqL L M=false):=Zake _ _ hn;have e3:((L.length:Int)==(M.length:Int))=false:=by rw[Yai];omega
   go_enter func34,ntmps34;go_wp2;go_ret;rw[HQ2.out];exact⟨rfl,Yae _ _⟩
theorem Zqr (C:Array Value) (S:Ps) (k:Nat) (w:World) (hE:Env w) (hP:PlC w C S) (hk:k<3) (h1:Zab (S.ses k).base=true) (h2:Zab (S.ses k).mine=true) (h3:Zab S.run=true):
 Calls prog 23 #[.agg C, .int .i64 (k:Int)] w (Zds (Zay (S.ses k).base (S.ses k).mine S.run) w):=by
 obtain⟨vB,eB,gB⟩:=hP.base k hk;obtain⟨vM,eM,gM⟩:=hP.mine k hk;obtain⟨v0,e0,g0⟩:=hP.run;obtain⟨aB,nB,cB,rfl⟩:=gB.slice;obtain⟨aM,nM,cM,rfl⟩:=gM.slice;obtain⟨a0,n0,c0,rfl⟩:=g0.slice;have eo:=hP.opn k hk;generalize (S.ses k).opn=bo at eo;obtain⟨wb,hwb⟩: ∃ wb,w.alloc (.cells C 32)=wb:=⟨_,rfl⟩;have hbb:Below w.heap.size w wb:=by rw[←hwb];exact(Yae _ _).alloc (Yag _) _
 have hb1:Below w.heap.size w (wb.alloc (.cells #[.int .i64 0, .int .i64 0] 39)):=hbb.alloc hbb.size _;have hb2:Below w.heap.size w ((wb.alloc (.cells #[.int .i64 0, .int .i64 0] 39)).alloc (.cells #[.bool bo, .slice aB nB cB, .slice aM nM cM] 29)):=hb1.alloc hb1.size _;obtain⟨wa,hwa⟩: ∃ wa,wb.alloc (.cells #[.int .i64 0, .int .i64 0] 39)=wa:=⟨_,rfl⟩;obtain⟨wd,hwd⟩: ∃ wd,wa.alloc (.cells #[.bool bo, .slice aB nB cB, .slice aM nM cM] 29)=wd:=⟨_,rfl⟩;have hp1:wb.heap.size<wd.heap.size:=by rw[←hwd,←hwa];simp;omega
 have hp0:w.heap.size<wb.heap.size:=by rw[←hwb];simp
 have hpa:wb.heap.size<wa.heap.size:=by rw[←hwa];simp
 have hh0:Bl wa w.heap.size C 32:=by rw[←hwa,←hwb];exact(Bl.new _ _ _).alloc _
 have hhd:Bl wd w.heap.size C 32:=by rw[←hwd];exact hh0.alloc _
 have k0:wa.cell? ⟨w.heap.size,2+k*3,none⟩=some (.bool bo):=(hh0.cell _).trans eo;have k1:wa.cell? ⟨w.heap.size,2+k*3+1,none⟩=some (.slice aB nB cB):=(hh0.cell _).trans eB;have k2:wa.cell? ⟨w.heap.size,2+k*3+2,none⟩=some (.slice aM nM cM):=(hh0.cell _).trans eM;have k3:wd.cell? ⟨w.heap.size,0,none⟩=some (.slice a0 n0 c0):=(hhd.cell _).trans e0;have k4:wd.cell? ⟨wa.heap.size,1,none⟩=some (.slice aB nB cB):=by rw[←hwd];exact World.cell?_alloc_at _ _ _ _ rfl
 have k5:wd.cell? ⟨wa.heap.size,2,none⟩=some (.slice aM nM cM):=by rw[←hwd];exact World.cell?_alloc_at _ _ _ _ rfl
 have hki:(k:Int)<3:=by omega
 have hkz:(0:Int)≤(k:Int):=by omega
 have hh:wd.heap[wb.heap.size]?=some (.cells #[.int .i64 0, .int .i64 0] 39 (0,0)):=by
  rw[←hwd,heap_alloc_old (r:=wb.heap.size) wa _ (by rw[←hwa];simp),←hwa];exact heap_alloc_new _ _
 rw[hwa,hwd]at hb2;have HBd:=Zhd hb2
 have HP1:Hid (∀ W,Below wd.heap.size wd W→W.cell? ⟨wb.heap.size,0,none⟩=some (.int .i64 0)∧W.cell? ⟨wb.heap.size,1,none⟩=some (.int .i64 0)∧ ∀ j,W.frozen? ⟨wb.heap.size,j,none⟩=false):=fun W hb=>by
  have h:=(hb.block _ hp1).trans hh;exact⟨by rw[cell_of_row W _ _ _ _ (0,0) h];rfl,by rw[cell_of_row W _ _ _ _ (0,0) h];rfl,fun j=>frozen_of_row W _ j _ _ h⟩
 have hwbs:w.heap.size≤wb.heap.size:=hbb.size;have HM:=Zhd (Zabo (.slice aB nB cB) (.slice aM nM cM) (.slice a0 n0 c0) (S.ses k).base (S.ses k).mine S.run wd (gB.below hb2) (gM.below hb2) (g0.below hb2) h1 h2 h3);obtain⟨m,hm⟩: ∃ m,Zcg (S.ses k).base (S.ses k).mine S.run=m:=⟨_,rfl⟩;obtain⟨T,nbad,er⟩:=m;rw[hm]at HM;unfold Zatm at HM;simp only at HM
 have hTr:er=0→Zab T=true:=fun h0=>by
  have:=(Zrp h1 h2 h3 (by rw[hm];exact h0)).1
  rwa [hm]at this
 obtain⟨z,hz⟩: ∃ z,Zay (S.ses k).base (S.ses k).mine S.run=z:=⟨_,rfl⟩;have HZ1:=Zhd (fun h=>hz.symm.trans (Zayt hm h))
 have HZ2:=Zhd (fun(h:er=0) X e2 (h2:Zdd T=(X,e2)) h3=>hz.symm.trans (Zayu (by rw[hm,h]) h2 h3))
 have HZ3:=Zhd (fun(h:er=0) X (h2:Zdd T=(X,0)) h3=>hz.symm.trans (Zayv (by rw[hm,h]) h2 h3))
 have HZ4:=Zhd (fun(h:er=0) X (h2:Zdd T=(X,0)) h3 h4=>hz.symm.trans (Zayw (by rw[hm,h]) h2 h3 h4))
 have HZ5:=Zhd (fun(h:er=0) X (h2:Zdd T=(X,0)) h3 h4=>hz.symm.trans (Zayx (by rw[hm,h]) h2 h3 h4))
 have HE:=Zhd hE;rw[hz];clear hz hm hh hh0 hhd hb1 hb2 hbb hp1 hp0 hpa g0 gB gM h1 h2 h3 hE hP eB eM e0;go_enter func23,ntmps23;go_wp2_with fail;refine HM.out.mono ?_;rintro e w1 ⟨⟨v1,A1,d1,rfl,hl1⟩,hb1⟩;have HB1:=Zhd hb1;have HL1:=Zhd hl1;clear hb1 hl1 HM;by_cases he:er=0
 · subst he;have q00:((0:Int)!=0)=false:=rfl;have HEx:=Zhd (Zagj v1 T w1 HL1.out (hTr rfl));obtain⟨x,hx⟩: ∃ x,Zdd T=x:=⟨_,rfl⟩;obtain⟨X,e2⟩:=x;rw[hx]at HEx;unfold Zhc at HEx;simp only at HEx;go_wp2_with fail;refine HEx.out.mono ?_;rintro e w2 ⟨⟨v2,rfl,hl2⟩,hb2⟩;have HB2:=Zhd (Zaa HB1.out hb2);have HL2:=Zhd (HL1.out.below hb2);obtain⟨A2,d2,e3,f1,f2,f3,-⟩:=hl2;subst e3;by_cases he2:e2=0
   · subst he2;have HCk:=Zhd (Zaji A2 d2 X w2 (HE.out.below (Zaa HBd.out HB2.out)) f3 f1 f2);clear hb2 f3 HEx HL1 HB1 HZ1 HZ2;go_wp2_with fail;refine HCk.out.mono ?_;rintro e w3 ⟨⟨hr,v3,rfl,hp3⟩|⟨hr,rfl⟩,hb3⟩
     · obtain⟨vs,-,hrow⟩:=hp3.2.2;obtain⟨A3,d3,e4,-,-,-⟩:=Zbe hrow;subst e4;have hln:((Zjf X).map Zdu).length=(Zjf X).length:=Yaz ..;obtain⟨nf,hnf⟩: ∃ nf,(Zjf X).length=nf:=⟨_,rfl⟩;rw[hln,hnf];have HB3:=Zhd (Zaa HB2.out hb3);have HL3:=Zhd (HL2.out.below hb3);have hp:=HP1.out w3 HB3.out;obtain⟨x0,x1,xf⟩:=hp;by_cases hpos:0<nf
       · have HK:=Zhd (HZ4.out trivial X hx hr (by rw[hnf];exact hpos))
         rw[hnf]at HK;have hpI:(0:Int)<(nf:Int):=by omega
         have HB4:=Zhd (((Zaa HBd.out HB3.out).setCell (p:=⟨wb.heap.size,0,none⟩) hwbs (.int .i64 7)).setCell (p:=⟨wb.heap.size,1,none⟩) hwbs (.int .i64 (nf:Int)));clear hb3 hp3 hrow hln hnf hr hx HZ3 HZ4 HZ5 hpos HCk;go_wp2_with fail;refine bodyPost_ret (v:= .tuple #[.slice none 0 0, .agg #[.int .i64 7, .int .i64 (nf:Int)]]) (by simp[results,results23,go_sem, *]) rfl ?_
         unfold Zds;rw[HK.out];exact⟨⟨_,rfl,Zcu _⟩,HB4.out⟩
       · have HK:=Zhd (HZ5.out trivial X hx hr (by rw[hnf];exact hpos))
         have hpI: ¬ (0:Int)<(nf:Int):=by omega
         have hbc:=((Zaa HBd.out HB3.out).setCell (p:=⟨wb.heap.size,0,none⟩) hwbs (.int .i64 0)).setCell (p:=⟨wb.heap.size,1,none⟩) hwbs (.int .i64 0);have hbc3:=((Yae w3.heap.size w3).mono (Yao _));have HB4:=Zhd hbc;obtain⟨A1',d1',e5,k1',k2',k3',k4'⟩:=HL3.out
         have HL4:Hid (Lr ((w3.setCell ⟨wb.heap.size,0,none⟩ (.int .i64 0)).setCell ⟨wb.heap.size,1,none⟩ (.int .i64 0)) v1 T):=by
          refine⟨A1',d1',e5,k1',k2', ?_,k4'⟩;have hq:=HP1.out w3 HB3.out;exact Zawi k3' (by simp) (fun p u hu=>Zafw hq.1 hq.2.1 hu)
         clear hb3 hp3 hrow hln hnf hr hx HZ3 HZ4 HZ5 hpos HCk hbc hbc3 k3';subst e5;go_wp2_with fail;refine bodyPost_ret (v:= .tuple #[.slice A1' T.length d1', .agg #[.int .i64 0, .int .i64 0]]) (by simp[results,results23,go_sem, *]) rfl ?_
         unfold Zds;rw[HK.out];exact⟨⟨_,rfl,HL4.out⟩,HB4.out⟩
     · have HK:=Zhd (HZ3.out trivial X hx hr);have HB3:=Zhd (Zaa HB2.out hb3);have hp:=HP1.out w3 HB3.out;obtain⟨x0,x1,xf⟩:=hp;have HB4:=Zhd (((Zaa HBd.out HB3.out).setCell (p:=⟨wb.heap.size,0,none⟩) hwbs (.int .i64 1)).setCell (p:=⟨wb.heap.size,1,none⟩) hwbs (.int .i64 0));clear hb3 hr hx HZ3 HZ4 HZ5 HCk;go_wp2_with fail;refine bodyPost_ret (v:= .tuple #[.slice none 0 0, .agg #[.int .i64 1, .int .i64 0]]) (by simp[results,results23,go_sem, *]) rfl ?_
       unfold Zds;rw[HK.out];exact⟨⟨_,rfl,Zcu _⟩,HB4.out⟩
   · have HK:=Zhd (HZ2.out trivial X e2 hx he2);have qe:(e2 !=0)=true:=by rw[bne_iff_ne];exact he2
     have hp:=HP1.out w2 HB2.out;obtain⟨x0,x1,xf⟩:=hp;have HB4:=Zhd (((Zaa HBd.out HB2.out).setCell (p:=⟨wb.heap.size,0,none⟩) hwbs (.int .i64 e2)).setCell (p:=⟨wb.heap.size,1,none⟩) hwbs (.int .i64 0));clear hb2 f3 hx HZ1 HZ2 HZ3 HZ4 HZ5 HEx;go_wp2_with fail;refine bodyPost_ret (v:= .tuple #[.slice none 0 0, .agg #[.int .i64 e2, .int .i64 0]]) (by simp[results,results23,go_sem, *]) rfl ?_
     unfold Zds;rw[HK.out];exact⟨⟨_,rfl,Zcu _⟩,HB4.out⟩
 · have HK:=Zhd (HZ1.out he);have qe:(er !=0)=true:=by rw[bne_iff_ne];exact he
   have hp:=HP1.out w1 HB1.out;obtain⟨x0,x1,xf⟩:=hp;have HB4:=Zhd (((Zaa HBd.out HB1.out).setCell (p:=⟨wb.heap.size,0,none⟩) hwbs (.int .i64 er)).setCell (p:=⟨wb.heap.size,1,none⟩) hwbs (.int .i64 (nbad:Int)));clear HZ1 HZ2 HZ3 HZ4 HZ5;go_wp2_with fail;refine bodyPost_ret (v:= .tuple #[.slice none 0 0, .agg #[.int .i64 er, .int .i64 (nbad:Int)]]) (by simp[results,results23,go_sem, *]) rfl ?_
   unfold Zds;rw[HK.out];exact⟨⟨_,rfl,Zcu _⟩,HB4.out⟩
theorem Zjy (C:Array Value) (S:Ps) (w:World) (hP:PlC w C S) (h5:S.revs.length≤5):Calls prog 18 #[.agg C] w fun e w'=>e= .returned (.int .i64 (Zav S))∧Below w.heap.size w w':=Zavp hP.plR h5
theorem Zys (C:Array Value) (S:Ps) (At:Option Addr) (ct:Nat) (T:List Line) (w:World) (hP:PlC w C S) (hT:Lr w (.slice At T.length ct) T) (h5:S.revs.length≤5) (hl:0≤Zav S∧Zav S≤1000000000):
 Calls prog 30 #[.agg C, .slice At T.length ct] w fun e w'=>(∃ C',e= .returned (.agg C')∧PlC w' C' (Zdn S T)∧ ∀ A n c,C'[1]?=some (.slice A n c)→ ∀ a,A=some a→w.heap.size≤a.block)∧Below w.heap.size w w':=by
 obtain⟨a0,ar,a1,a2,a3,a4,a5,a6,ab,n0,nr,n1,n2,n3,n4,n5,n6,nb,c0,cr,c1,c2,c3,c4,c5,c6,cb,e,g0,gr,g1,g2,g3,g4,g5,g6,gb⟩:=hP.plR;injection e with e
 subst e;refine(Zavs S a0 ar a1 a2 a3 a4 a5 a6 ab n0 nr n1 n2 n3 n4 n5 n6 nb c0 cr c1 c2 c3 c4 c5 c6 cb At ct T w gr hT h5 hl).mono ?_;rintro e w' ⟨⟨q,o,nq,cq,rfl,hq,hr⟩,hb⟩
 have hR:PlR w' (.agg (plv At (some ⟨q,o,none⟩) a1 a2 a3 a4 a5 a6 ab T.length nq n1 n2 n3 n4 n5 n6 nb ct cq c1 c2 c3 c4 c5 c6 cb S.s0.opn S.s1.opn S.s2.opn S.lock S.clock S.dead)) (Zdn S T):=
  ⟨At,some ⟨q,o,none⟩,a1,a2,a3,a4,a5,a6,ab,T.length,nq,n1,n2,n3,n4,n5,n6,nb,ct,cq,c1,c2,c3,c4,c5,c6,cb,rfl,hT.below hb,hr,g1.below hb,g2.below hb,g3.below hb,g4.below hb,g5.below hb,g6.below hb,gb.below hb⟩
 obtain⟨C',e,hC⟩:=hR.cells;injection e with e
 subst e;refine⟨⟨_,rfl,hC,fun A n c h a e=> ?_⟩,hb⟩
 have h':some (Value.slice (some ⟨q,o,none⟩) nq cq)=some (.slice A n c):=h;injection h' with h'
 injection h' with h1
 rw[e]at h1;injection h1 with h1
 rw[←h1];exact hq
theorem PlC.setDead {w:World} {C:Array Value} {S:Ps} (h:PlC w C S) (l:Int):PlC w (C.setIfInBounds 13 (.int .i64 l)) {S with dead:=l}:=by
 have hs:=h.size
 have g: ∀ j,(C.setIfInBounds 13 (.int .i64 l))[j]?=if j=13 then some (.int .i64 l)else C[j]?:=fun j=>by
  rw[Ycq];by_cases e:j=13
  · rw[Yan e.symm,Yan (by omega),Yan e]
  · rw[Yad (Ne.symm e),Yad e]
 refine⟨by simp[hs], ?_, ?_,fun j hj=> ?_,fun j hj=> ?_,fun j hj=> ?_, ?_, ?_, ?_, ?_⟩
 · rw[g,Yad (by omega)];exact h.run
 · rw[g,Yad (by omega)];exact h.revs
 · rw[g,Yad (by omega)];exact h.opn j hj
 · rw[g,Yad (by omega)];exact h.base j hj
 · rw[g,Yad (by omega)];exact h.mine j hj
 · rw[g,Yad (by omega)];exact h.lock
 · rw[g,Yad (by omega)];exact h.clock
 · rw[g,Yan rfl]
 · rw[g,Yad (by omega)];exact h.back
theorem PlC.setBack {w:World} {C:Array Value} {S:Ps} (h:PlC w C S) (v:Value) (B:List Line) (hB:Lr w v B):PlC w (C.setIfInBounds 14 v) {S with back:=B}:=by
 have hs:=h.size
 have g: ∀ j,(C.setIfInBounds 14 v)[j]?=if j=14 then some v else C[j]?:=fun j=>by
  rw[Ycq];by_cases e:j=14
  · rw[Yan e.symm,Yan (by omega),Yan e]
  · rw[Yad (Ne.symm e),Yad e]
 refine⟨by simp[hs], ?_, ?_,fun j hj=> ?_,fun j hj=> ?_,fun j hj=> ?_, ?_, ?_, ?_, ?_⟩
 · rw[g,Yad (by omega)];exact h.run
 · rw[g,Yad (by omega)];exact h.revs
 · rw[g,Yad (by omega)];exact h.opn j hj
 · rw[g,Yad (by omega)];exact h.base j hj
 · rw[g,Yad (by omega)];exact h.mine j hj
 · rw[g,Yad (by omega)];exact h.lock
 · rw[g,Yad (by omega)];exact h.clock
 · rw[g,Yad (by omega)];exact h.dead
 · rw[g,Yan rfl];exact⟨_,rfl,hB⟩
end Go.Proofs.Zq
