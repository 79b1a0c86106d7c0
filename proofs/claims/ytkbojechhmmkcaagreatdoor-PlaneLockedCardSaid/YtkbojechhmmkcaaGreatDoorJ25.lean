import Derived.Test.YtkbojechhmmkcaaGreatDoorJ24
set_option linter.unusedVariables false
set_option linter.unusedSimpArgs false
set_option maxHeartbeats 2000000
set_option maxRecDepth 100000
namespace Go.Proofs.Zq
open Tryz
open Go Go.RowKit Go.Sort Tre Lx Prs Lns Edt Sch
def QOwn (w:World) (x:PV):Prop:= ∃ b o c,x.1= .slice (some ⟨b,o,none⟩) x.2.length c∧x.2.length≤c∧c≤maxLen∧Rd w 1 (some ⟨b,o,none⟩) x.2.length (sv x.2)∧ ∃ cur,w.heap[b]?=some (.cells cur 9 (0,0))
def QRow (w:World) (base:Nat) (v:Value) (Q:List PV):Prop:=w.ownsRow base 34 1 v Q.length (Q.map Prod.fst)∧ ∀ x∈Q,QOwn w x
theorem QOwn.same {w w':World} {x:PV} (h:QOwn w x) (hk: ∀ (b:Nat) (cur:Array Value),w.heap[b]?=some (.cells cur 9 (0,0))→w'.heap[b]?=some (.cells cur 9 (0,0))):QOwn w' x:=by
 obtain⟨b,o,c,h1,h2,h3,h4,cur,h5⟩:=h;have h6:=hk b cur h5;refine⟨b,o,c,h1,h2,h3,⟨h4.1,fun h0=>⟨_,rfl,(Ybc.1 h6).1,fun j u hu=> ?_⟩⟩,cur,h6⟩
 have h7:=Zsa h4 j u hu;rw[Zag]at h7⊢;rw[World.cell?_of_block (w:=w) (a:=⟨b,o+j,none⟩) (by rw[h6,h5])]
 exact h7
theorem QOwn.below {w w':World} {x:PV} (h:QOwn w x) (hb:Below w.heap.size w w'):QOwn w' x:=h.same fun b _ hh=>(hb.block b (Ybc.1 hh).1).trans hh
theorem QOwn.keep {w w':World} {x:PV} (h:QOwn w x) (k:Zbn 34 w w'):QOwn w' x:=h.same fun b cur hh=>k b cur _ (by decide) hh
theorem QOwn.pr {w:World} {x:PV} (h:QOwn w x):Pr w x.1 x.2:=by
 obtain⟨b,o,c,h1,h2,h3,h4,-⟩:=h;exact⟨_,c,h1,h2,h3,h4⟩
theorem QOwn.cell {w:World} {x:PV} (h:QOwn w x):x.1.oneCell'=true:=by
 obtain⟨b,o,c,h1,-⟩:=h;rw[h1];rfl
theorem QOwn.own {w:World} {base:Nat} {v:Value} {P:List ByteArray} (h:w.ownsRow base 9 1 v P.length (sv P)) (h0:0<P.length):QOwn w (v,P):=by
 obtain⟨A,c,e,g1,g2,g3⟩:=Zbe h;rcases h.2 with⟨-,hz⟩|⟨g,cap,cur,e2,-,hh,-⟩
 · omega
 · rw[e]at e2;injection e2 with e3 _ e4
   subst e3;exact⟨g,0,c,e,g1,g2,g3,cur,hh⟩
theorem QRow.below {w w':World} {base:Nat} {v:Value} {Q:List PV} (h:QRow w base v Q) (hb:Below w.heap.size w w'):QRow w' base v Q:=⟨Zah h.1 hb,fun x hx=>(h.2 x hx).below hb⟩
theorem Zqb (w:World) (base:Nat):QRow w base (.slice none 0 0) []:=⟨World.ownsRow_nil _ _ _ _,fun x hx=>by cases hx⟩
theorem Zwk {w w':World} {base:Nat} {v':Value} {Q R:List PV} (h:w'.ownsRow base 34 1 v' (Q.length+R.length) (Q.map Prod.fst++R.map Prod.fst)) (hq: ∀ y∈Q,QOwn w y) (hx: ∀ y∈R,QOwn w y) (k:Zbn 34 w w'):QRow w' base v' (Q++R):=by
 refine⟨by rw[Yak,Ybu];exact h,fun y hy=> ?_⟩
 rcases Ybl.1 hy with hy|hy
 · exact(hq y hy).keep k
 · exact(hx y hy).keep k
theorem Zob {P:Program} {ops:Array Oper} {rest:List Oper} {o:Oper} {a:Act} {Q:Exit→Act→World→Prop} (hgd:o.guard=none) (s x:Operand) (t:TypeId)
 (ho:o.op= .call {callee:= .builtin .append,args:= #[s,x],argTypes:= #[t,t]})
 (w0 wr:World) (e:TypeId) (i:TypeInfo) (z:Value) (size bytes:Nat) (ht:P.underlying t=some (.slice e)) (hi:P.info? e=some i) (hz:i.zero=some z)
 (hsize:i.size=size) (hby:i.bytes=bytes) (hzs:z.cells.size=size) (hsz:0<size) (hb64:bytes≤64)
 {v:Value} {n:Nat} {xs:List Value} (hown:wr.ownsRow w0.heap.size e size v n xs) (hb:Below w0.heap.size w0 wr) (hs:a.eval s=v)
 (A:Option Addr) (m c:Nat) (news:List Value) (hx:a.eval x= .slice A m c) (hR:Rd wr size A m news) (hnil:A=none→c=0) (h1: ∀ u∈news,u.oneCell'=true)
 (hN:n+m≤1000000000)
 (h: ∀ v' w',w'.ownsRow w0.heap.size e size v' (n+m) (xs++news)→Below w0.heap.size w0 w'→Zbn e wr w'→wpList P ops Q rest (a.put o.dst v') w'):
 wpList P ops Q (o::rest) a wr:=by
 rcases A with _|ad
 · have hm:m=0:=by
    rcases Ybn m with h0|h0
    · exact h0
    · obtain⟨ad,h,-⟩:=hR.2 h0;cases h
   subst hm;have hn:news= []:=Yar (by simpa using hR.1)
   subst hn;obtain rfl:=hnil rfl;exact wpList_append_own_none hgd s x t ho w0.heap.size e i size ht hi v n xs hs hown hx (h v wr (by simpa using hown) hb (Zbn.refl _ _))
 · exact Ztl hgd s x t ho w0 wr e i z size bytes ht hi hz hsize hby hzs hsz hb64 hown hb hs ad m c news hx hR.1 (Zsa hR) h1 hN h
def Zin (F:List (List ByteArray)) (w:World) (e:Ending) (w':World):Prop:=
 (∃ v Q,e= .returned v∧QRow w' w.heap.size v Q∧Q.map Prod.snd=F)∧Below w.heap.size w w'
theorem Zrc {α β:Type} (f:α→List β) (l:List α) {k:Nat} (h:k<l.length):(l.take (k+1)).flatMap f=(l.take k).flatMap f++f l[k]:=by
 rw[Yaw h,Ycg];simp
theorem Zayk (P:List ByteArray) (k:Nat) (s:ByteArray):sv (P.set k s)=(sv P).set k (.string s):=by unfold sv;rw[List.map_set]
theorem Zzw {X:List Line} (U:List ByteArray):(Zdb X U).length≤X.length:=by
 unfold Zdb;cases hf:Zar X U with
 |some i=>simp only;rw[Yaz];exact Yas (kidsTo_len _ _ _ _) (Zbc X i (Zce hf)).2
 | none=>
   simp only;split
   · rw[Yaz];exact kidsTo_len _ _ _ _
   · exact Yao _
theorem Zra (vt p:Value) (X:List Line) (P:List ByteArray) (n:Nat) (w:World) (hX:Lr w vt X) (hr:Zab X=true) (hP:QOwn w (p,P)) (hn:n≤P.length) (h16:P.length≤16)
 (hrec: ∀ (W:World) (p':Value) (P':List ByteArray) (n':Nat) (z:Int),Below w.heap.size w W→QOwn W (p',P')→P'.length=P.length→n<n'→n'≤P.length→z=(n':Int)→Calls prog 92 #[vt,p', .int .i64 z] W (Zin (Zlz X P' n') W)):
 Calls prog 92 #[vt,p, .int .i64 (n:Int)] w (Zin (Zlz X P n) w):=by
 obtain⟨i0,hi,hz0,hz1,hz2⟩:=info_parts Zhs;have HPq:=Zhd hP;obtain⟨b,o,c,e1,hc1,hc2,hR,cur,hh⟩:=hP;obtain rfl:p= .slice (some ⟨b,o,none⟩) P.length c:=e1;simp only at hc1 hR;have h200:=Zas hr
 have hcells: ∀ W,Below w.heap.size w W→ ∀ j,j<P.length→W.cell? ⟨b,o+j,none⟩=some (.string (P.getD j ByteArray.empty)):=fun W hb j hj=>by
  obtain⟨b',o',e',-,-,hx⟩:=(hR.below hb).strAt hj;cases e';rw[hx,Yaq,Yaj hj];rfl
 have HCe:=Zhd hcells;have hcm:=hc2;unfold maxLen at hcm;have hnc1:(n:Int)≤(c:Int):=by omega
 have hnl1:(n:Int)≤(P.length:Int):=by omega
 have hf1:(P.length:Int)-(n:Int)=((P.length-n:Nat):Int):=by omega
 have hf2:(c:Int)-(n:Int)=((c-n:Nat):Int):=by omega
 unfold Zin at hrec;cases hst:Zml (P.drop n)with
 | none=>
   rw[Zakg hst]
   have HQ:Hid (QRow (w.alloc (.cells #[.slice (some ⟨b,o,none⟩) P.length c] 34)) w.heap.size (.slice (some ⟨w.heap.size,0,none⟩) 1 1) [(.slice (some ⟨b,o,none⟩) P.length c,P)]):=by
    refine⟨World.ownsRow_lit (e:=34) (size:=1) (base:=w.heap.size) w #[.slice (some ⟨b,o,none⟩) P.length c] 1 (Yag _) (by unfold maxLen;omega) rfl,fun x hx=> ?_⟩
    rw[Ybt]at hx;rw[hx];exact HPq.out.below ((Yae _ _).alloc (Yag _) _)
   have HB:=Zhd ((Yae w.heap.size w).alloc (Yag _) (.cells #[.slice (some ⟨b,o,none⟩) P.length c] 34));have hidx:Lib.idxOfS (P.drop n) Zwq= -1:=by unfold Lib.idxOfS;rw[Zso,hst]
   by_cases hnl:n=P.length
   · have HI:=Zhd (fun(a:Option Addr) (c':Nat)=>Tryz.slices_Index_string_empty a c' Zwq w)
     have hem:Lib.idxOfS [] Zwq= -1:=rfl;rw[hem]at HI;have hz0':P.length-n=0:=by omega
     rw[hz0']at hf1;clear hrec hcells HCe hR hst hidx hcm;subst hnl;by_cases hcn:c=P.length
     · subst hcn;go_enter func92,ntmps92;go_wp2_with (go_at_call 124;refine(HI.out _ _).mono ?_;rintro e w2 ⟨rfl,rfl⟩);go_ret;unfold Zin;exact⟨⟨_,_,rfl,HQ.out,rfl⟩,HB.out⟩
     · have hcn2: ¬ (P.length=c):=fun h=>hcn h.symm
       go_enter func92,ntmps92;go_wp2_with (go_at_call 124;refine(HI.out _ _).mono ?_;rintro e w2 ⟨rfl,rfl⟩);go_ret;unfold Zin;exact⟨⟨_,_,rfl,HQ.out,rfl⟩,HB.out⟩
   · have HI:=Zhd (Tryz.slices_Index_string b (o+n) (P.length-n) (c-n) (P.drop n) Zwq w (by rw[Yam];omega) (by omega) (fun j hj=>by
      rw[Yam]at hj;have:=hcells w (Yae _ _) (n+j) (by omega)
      rw[Ydh,this,Yaq,Yaq,Ydb]))
     rw[Ybk (by rw[Yam];omega),hidx]at HI
     have hcn: ¬ (c=n):=by omega
     have hcn2: ¬ (n=c):=by omega
     clear hrec hcells HCe hR hst hidx hcm;go_enter func92,ntmps92;go_wp2_with (go_at_call 124;refine HI.out.mono ?_;rintro e w2 ⟨rfl,rfl⟩);go_ret;unfold Zin;exact⟨⟨_,_,rfl,HQ.out,rfl⟩,HB.out⟩
 | some a=>
   have ha:=Znt hst;rw[Yam]at ha
   have HI:=Zhd (Tryz.slices_Index_string b (o+n) (P.length-n) (c-n) (P.drop n) Zwq w (by rw[Yam];omega) (by omega) (fun j hj=>by
    rw[Yam]at hj;have:=hcells w (Yae _ _) (n+j) (by omega)
    rw[Ydh,this,Yaq,Yaq,Ydb]))
   have hidx:Lib.idxOfS (P.drop n) Zwq=(a:Int):=by unfold Lib.idxOfS;rw[Zso,hst];simp
   rw[Ybk (by rw[Yam];omega),hidx]at HI
   have hfs:=Zakh (X:=X) hst;obtain⟨k,hk⟩: ∃ k,n+a=k:=⟨_,rfl⟩;rw[hk]at hfs;have hkl:k<P.length:=by omega
   have hsum:(a:Int)+(n:Int)=(k:Int):=by omega
   have HWd:=Zhd (Zsy vt (.slice (some ⟨b,o,none⟩) k c) X (P.take k))
   have HPt:Hid (∀ W,Below w.heap.size w W→Pr W (.slice (some ⟨b,o,none⟩) k c) (P.take k)):=fun W hb=>by
    refine⟨_,c,by rw[Yaf,Ybb (Yeb hkl)],by rw[Yaf];omega,hc2, ?_⟩
    rw[Yaf,Ybb (Yeb hkl)];exact Zfy (hR.below hb) (Yeb hkl)
   have HXl:=Zhd (fun(W:World) (hb:Below w.heap.size w W)=>hX.below hb)
   have hwl:=Zzw (X:=X) (P.take k);have HFl:=Zhd (fun s=>Zqz hr (P.set k s) (k+1))
   have HRec:=Zhd (fun(W:World) (p':Value) (s:ByteArray) (z:Int) (hb:Below w.heap.size w W) (hq:QOwn W (p',P.set k s)) (hz:z=((k+1:Nat):Int))=>hrec W p' (P.set k s) (k+1) z hb hq Ycm (by omega) (by omega) hz)
   have HRt:=Zhd hr;have hcn: ¬ (c=n):=by omega
   have hcn2: ¬ (n=c):=by omega
   have hk0:(0:Int)≤(k:Int):=by omega
   have hkc:(k:Int)≤(c:Int):=by omega
   have hkw:IntKind.i64.wrap (k:Int)=(k:Int):=by rw[IntKind.wrap_i64];omega
   have hkw1:IntKind.i64.wrap ((k:Int)+1)=(k:Int)+1:=by rw[IntKind.wrap_i64];omega
   have hkI:(k:Int)<(P.length:Int):=by omega
   have ha0: ¬ (a:Int)<0:=by omega
   rw[hfs];clear hrec hcells hst hidx hfs ha hk hR hX hr;go_enter func92,ntmps92;go_wp2_with (go_at_call 124;refine HI.out.mono ?_;rintro e w2 ⟨rfl,rfl⟩);have HW2:=Zhd (HWd.out w2 (HXl.out w2 (Yae _ _)) HRt.out (HPt.out w2 (Yae _ _)));clear HWd HPt HI;refine HW2.out.mono ?_;rintro e w3 ⟨⟨v3,rfl,ho3⟩,hb3⟩;obtain⟨Aw,cw,e1,-,-,hRw⟩:=Zbe ho3;subst e1;have HB3:=Zhd hb3;have HRw:=Zhd hRw;obtain⟨ws,hws⟩: ∃ ws,Zdb X (P.take k)=ws:=⟨_,rfl⟩;rw[hws]at HRw hwl⊢;have HWs:=Zhd hws;clear ho3 hb3 hRw HW2 hws hnc1 hnl1 hf1 hf2 hcn hcn2 hsum ha0;go_wp2;go_loopw [8,29] (fun vo vj wr=> ∃ (j:Nat) (Q:List PV),vj= .int .i64 j∧j≤ws.length∧Q.length≤200*j∧Hid (QRow wr w3.heap.size vo Q)∧Hid (Q.map Prod.snd=(ws.take j).flatMap fun s=>Zlz X (P.set k s) (k+1))∧Hid (Below w3.heap.size w3 wr)) (fun _ vj _=>ws.length-(intOf vj).toNat)
   case atStart=>exact⟨0,[],rfl,Yao _,Yao _,Zqb _ _,rfl,Yae _ _⟩
   case round=>
    obtain⟨j,Q,rfl,hj',hQl,HQ,HM,HB⟩:=hrel;by_cases hlt:j<ws.length
    · obtain⟨bw,ow,rfl,habw,haddw,xw⟩:=HRw.out.strAt hlt;have x0:=(HB.out.cell (p:=⟨bw,ow+j,none⟩) habw).trans xw;have HS:=Zhd (Zrc (fun s=>Zlz X (P.set k s) (k+1)) ws hlt)
      have HFs:=HFl.out ws[j];have HRs:=Zhd (fun W p'=>HRec.out W p' ws[j])
      have hjI:(j:Int)<(ws.length:Int):=by omega
      generalize ws[j]=s at *;have HCl:=Zhd (Tryz.slices_Clone_string b o P.length c P wr (Yag _) (by omega) (HCe.out wr (Zaa HB3.out HB.out)))
      clear xw;go_wp2_with fail;refine HCl.out.mono ?_;rintro e w4 ⟨v4,rfl,ho4,-,hb4⟩;rw[Ybz]at ho4;have ho4:w4.ownsRow wr.heap.size 9 1 v4 P.length (sv P):=ho4;obtain⟨m,hm⟩: ∃ m,P.length=m+1:=⟨P.length-1,by omega⟩
      have ho4':=ho4;rw[hm]at ho4';obtain⟨q,cc,e4⟩:=Zck ho4';rw[←hm]at e4;subst e4;have HB4:=Zhd (Zaa HB.out hb4);have HQ4:=Zhd (HQ.out.below hb4);have hqw:wr.heap.size≤q:=(ho4.lt q rfl).1;have hqw3:w3.heap.size≤q:=Yas HB.out.size hqw
      have y1:w4.cell? ⟨q,k,none⟩=some (.string P[k]):=by
       rw[ho4.cellAt k (by omega),Zjk hkl]
      have y2:w4.frozen? ⟨q,k,none⟩=false:=ho4.frozenAt _;have hst5:=(ho4.stored k (.string s)).1;rw[←Zayk]at hst5
      have HP5:Hid (QOwn (w4.setCell ⟨q,k,none⟩ (.string s)) (.slice (some ⟨q,0,none⟩) P.length cc,P.set k s)):=by
       have:=QOwn.own (P:=P.set k s) (by rw[Ycm];exact hst5) (by rw[Ycm];omega)
       exact this
      have HB5:=Zhd (HB4.out.setCell (p:=⟨q,k,none⟩) hqw3 (.string s));have hb45:=hb4.setCell (p:=⟨q,k,none⟩) hqw (.string s);have HQ5:=Zhd (HQ.out.below hb45);have HR5:=Zhd (HRs.out (w4.setCell ⟨q,k,none⟩ (.string s)) (.slice (some ⟨q,0,none⟩) P.length cc) ((k:Int)+1) (Zaa HB3.out HB5.out) HP5.out rfl);have HB5w:=HB5;obtain⟨w5,hw5⟩: ∃ w5,w4.setCell ⟨q,k,none⟩ (.string s)=w5:=⟨_,rfl⟩;rw[hw5]at HB5 HQ5 HR5;clear ho4 ho4' hm hb4 hst5 HP5 hb45 HB4 HQ4 HQ HB HCl HRs HB5w x0;go_wp2_with fail;refine HR5.out.mono ?_;rintro e w6 ⟨⟨v6,Q6,rfl,hq6,hm6⟩,hb6⟩;obtain⟨A6,c6,e6,-,-,hR6,hnil6,-⟩:=Zcv hq6.1;subst e6;have HB6:=Zhd (Zaa HB5.out hb6);have HQ6:=Zhd (HQ5.out.below hb6);have hq6l:Q6.length≤200:=by
       have:(Q6.map Prod.snd).length≤200:=by rw[hm6];exact HFs
       rwa [Yaz]at this
      have HN6:=Zhd hnil6;have HR6:=Zhd hR6;have HO6:=Zhd hq6.2;have HM6:=Zhd hm6;clear hb6 hq6 hm6 hnil6 hR6 HR5 HQ5 HB5 y1 y2 hw5;go_wp2_with (at_builtin;refine Zob rfl _ _ 71 rfl w3 w6 34 i0 _ 1 24 underlying71 hi hz0 hz1 hz2 rfl (by decide) (by decide) HQ6.out.1 HB6.out rfl A6 Q6.length c6 (Q6.map Prod.fst) rfl HR6.out HN6.out (by intro u hu;obtain⟨y,hy,rfl⟩:=Yda.1 hu;exact(HO6.out y hy).cell) (by omega) ?_;intro v8 w8 hown8 hb8 hk8)
      have HQ8:=Zhd (Zwk hown8 HQ6.out.2 HO6.out hk8)
      have HM8:Hid ((Q++Q6).map Prod.snd=(ws.take (j+1)).flatMap fun s=>Zlz X (P.set k s) (k+1)):=by
       show _=_;rw[HS.out,Ybu,HM.out,HM6.out]
      have HB8:=Zhd hb8;clear hown8 hb8 hk8 HQ6 HB6 HR6 HN6 HO6 HM6 HS HM;go_wp2_with fail;go_roundw
      case rel=>exact⟨j+1,Q++Q6,by go_num,by omega,by rw[Yak];omega,HQ8,HM8,HB8⟩
      case measure=>simp[intOf];omega
    · have hjf:ws.take j=ws:=Ybk (by omega)
      rw[hjf]at HM;have hnI: ¬ ((j:Int)<(ws.length:Int)):=by omega
      have HBf:=Zhd (Zaa HB3.out HB.out);have hz3:=HB3.out.size;clear hjf;go_wp2;go_ret;unfold Zin;exact⟨⟨_,Q,rfl,⟨HQ.out.1.mono hz3,HQ.out.2⟩,by rw[HWs.out];exact HM.out⟩,HBf.out⟩
theorem Ztq: ∀ (f:Nat) (vt p:Value) (X:List Line) (P:List ByteArray) (n:Nat) (w:World),P.length-n≤f→Lr w vt X→Zab X=true→QOwn w (p,P)→n≤P.length→P.length≤16→
 Calls prog 92 #[vt,p, .int .i64 (n:Int)] w (Zin (Zlz X P n) w)
 |0,vt,p,X,P,n,w,hf,hX,hr,hP,hn,h16=>Zra vt p X P n w hX hr hP hn h16 fun W p' P' n' z _ _ _ h1 h2 _=>by omega
 | f+1,vt,p,X,P,n,w,hf,hX,hr,hP,hn,h16=>Zra vt p X P n w hX hr hP hn h16 fun W p' P' n' z hb hq hl h1 h2 hz=>by
   rw[hz];exact Ztq f vt p' X P' n' W (by omega) (hX.below hb) hr hq (by omega) (by omega)
end Go.Proofs.Zq
namespace Edt
open Go Go.Lib Tre Sch Lns
theorem Zvo: ∀ {S:List (List ByteArray)} {M:List Line},S.length=M.length→(∀ (k:Nat) (h1:k<S.length) (h2:k<M.length),Zbx M[k]=true∧M[k].depth=((S[k].length-1:Nat):Int)∧S[k].getLastD ⟨#[]⟩=M[k].word)→Zfu S M
 | [],[],_,_=>trivial
 | q::S,l::M,hl,h=>by
   refine⟨h 0 (by simp) (by simp),Zvo (by simpa using hl) fun k h1 h2=> ?_⟩
   have:=h (k+1) (by simp;omega) (by simp;omega)
   exact this
 | [],_::_,hl,_=>by simp at hl
 |_::_,[],hl,_=>by simp at hl
theorem Zul {L:List Line} (hr:Zab L=true) {i:Nat} (hi:i<L.length):Zab (subL L i)=true:=by
 obtain⟨hl200,hd,hsrt⟩:=Zac hr;obtain⟨e1,e2⟩:=Zbc L i hi;obtain⟨en,hen⟩: ∃ en,endB L i=en:=⟨_,rfl⟩;have hpl:=Zbt hd hi;have hdn:=Zby hd hi;obtain⟨d,hdd⟩: ∃ d,(Zao L i).toNat=d:=⟨_,rfl⟩;have hdI:Zao L i=(d:Int):=by omega
 rw[hdd]at hpl;have hpre: ∀ k,i≤k→k<en→ ∃ s,pa L k=pa L i++s:=fun k h1 h2=>(Zdr hr hi (by omega)).2 ⟨h1,by rw[hen];exact h2⟩
 have hfr: ∀ k,i≤k→k<en→pa L k=(pa L i).take d++(pa L k).drop d:=fun k h1 h2=>by
  obtain⟨s,hs⟩:=hpre k h1 h2;have:(pa L i).take d=(pa L k).take d:=by rw[hs,Ycf (by omega)]
  rw[this,Ybh]
 have hlen:(subL L i).length=en-i:=by
  unfold subL;rw[Yaz,Yaf,Yam,hen];omega
 obtain⟨S,hS⟩: ∃ S,S=(List.range (en-i)).map fun j=>(pa L (i+j)).drop d:=⟨_,rfl⟩
 have hSl:S.length=en-i:=by rw[hS,Yaz,Yes]
 have hSk: ∀ j (h:j<S.length),S[j]=(pa L (i+j)).drop d:=fun j h=>by subst hS;rw[Ydj,List.getElem_range]
 have hmem: ∀ q,q∈S↔ ∃ k,i≤k∧k<en∧q=(pa L k).drop d:=fun q=>by
  rw[hS,Yda];constructor
  · rintro⟨j,hj,rfl⟩;rw[Ycz]at hj;exact⟨i+j,by omega,by omega,rfl⟩
  · rintro⟨k,h1,h2,rfl⟩;exact⟨k-i,by rw[Ycz];omega,by rw[show i+(k-i)=k by omega]⟩
 refine(Zkd (S:=S) (Zvo (by rw[hSl,hlen]) fun j h1 h2=> ?_) ⟨?_,fun q hq=> ?_⟩ (by rw[hlen];omega)).1
 · have hk:i+j<L.length:=by omega
   have g1:=Zei hd (i+j) hk;have g2:=Zbt hd hk;have g3:=Zex hr hk;have g4:=Zby hd hk;obtain⟨s,hs⟩:=hpre (i+j) (by omega) (by omega)
   have g5:(pa L (i+j)).length=d+1+s.length:=by rw[hs,Yak,hpl]
   have hM:(subL L i)[j]=⟨L[i+j].depth-Zao L i,L[i+j].word,L[i+j].mark⟩:=by
    have e:subL L i=((L.drop i).take (endB L i-i)).map fun l=>⟨l.depth-Zao L i,l.word,l.mark⟩:=rfl
    rw[List.getElem_of_eq e h2,Ydj,Ycs,Ydl]
   rw[Zbj hk]at g3;rw[Zau hk]at g2 g4;rw[hM,hSk j h1,hdI];obtain⟨m1,m2,m3⟩:=Zou g1.1;refine⟨?_, ?_, ?_⟩
   · unfold Zbx;simp only;rw[Yal (by omega),Yal (by omega),Yal m3,Yal m1,Yal m2];rfl
   · show L[i+j].depth-(d:Int)=_;rw[Yam];omega
   · show((pa L (i+j)).drop d).getLastD ⟨#[]⟩=L[i+j].word;rw[←g3,Ybx,Ybx,List.getLast?_drop,Yad (by omega)]
 · rw[Yds];intro a b ha hb hab;rw[hSk a ha,hSk b hb];have h1:=Zos hr (show i+a<i+b by omega) (show i+b<L.length by omega)
   rw[hfr (i+a) (by omega) (by omega),hfr (i+b) (by omega) (by omega),Zfi]at h1
   exact h1
 · obtain⟨k,h1,h2,rfl⟩:=(hmem q).1 hq;have hk:k<L.length:=by omega
   obtain⟨s,hs⟩:=hpre k h1 h2;have hq2:(pa L k).drop d=(pa L i).drop d++s:=by rw[hs,List.drop_append_of_le_length (by omega)]
   have hdl:((pa L i).drop d).length=1:=by rw[Yam];omega
   refine⟨fun e=> ?_, ?_⟩
   · rw[hq2]at e;have:=congrArg List.length e;rw[Yak,hdl]at this;simp at this
   · by_cases hs0:s= []
     · refine .inr ?_;rw[hq2,hs0,Ybg];refine Yar ?_;rw[Yci,hdl]
     · refine .inl ((hmem _).2 ?_);have hp:pa L k∈Zaf L:=by rw[Zfj hk];exact Yau _
       have hup:(pa L k).dropLast=pa L i++s.dropLast:=by rw[hs,Ycn hs0]
       rcases((Zcx hr).1.2 _ hp).2 with h|h
       · obtain⟨m,hm,hm2⟩:=Ybo h;rw[Zae]at hm;have hm3:pa L m=(pa L k).dropLast:=by rw[Zfj hm];exact hm2
         obtain⟨g1,g2⟩:=(Zdr hr hi hm).1 ⟨s.dropLast,by rw[hm3,hup]⟩
         refine⟨m,g1,by rw[←hen];exact g2, ?_⟩
         rw[hm3,hup,hq2,Ycn hs0,List.drop_append_of_le_length (by omega)]
       · rw[hup]at h;have:=congrArg List.length h;rw[Yak,hpl]at this;simp at this
def Zaas (L:List Line) (M:List Line) (i:Nat):List (List ByteArray):=if 1<(Zen M i).length then Zlz (Ziq L) ((Zen M i).drop 1) 0 else []
def Zis (L:List Line) (g:ByteArray):Option (List (List ByteArray)):=
 match Zar (Zal L) [Zec,g]with
 |none=>none
 |some k=>some ((Zbo (subL (Zal L) k) (subL (Zal L) k).length).flatMap (Zaas L (subL (Zal L) k)))
end Edt
namespace Go.Proofs.Zq
open Tryz
open Go Go.RowKit Go.Sort Tre Lx Prs Lns Edt Sch
theorem Zaht (w:World) (T:TypeId) (a b:ByteArray):Rd (w.alloc (.cells #[.string a, .string b] T)) 1 (some ⟨w.heap.size,0,none⟩) 2 (sv [a,b]):=by
 refine⟨rfl,fun _=>⟨_,rfl,by simp,fun j u hu=> ?_⟩⟩
 rw[Zag,Ybj,World.cell?_alloc_at _ _ _ _ rfl,Ydd];exact hu
theorem Zana {w:World} {base q n c:Nat} {P:List ByteArray} (hn:P.length=n) (h:w.ownsRow base 9 1 (.slice (some ⟨q,0,none⟩) n c) n (sv P)) (h1:1<n):QOwn w (.slice (some ⟨q,1,none⟩) (n-1) (c-1),P.drop 1):=by
 obtain⟨A,c',e,g1,g2,g3⟩:=Zbe h;injection e with e1 _ e3
 subst e1;subst e3
 obtain⟨cur,hh⟩: ∃ cur,w.heap[q]?=some (.cells cur 9 (0,0)):=by
  rcases h.2 with⟨h',-⟩|⟨g',cap',cur,h',-,hh,-⟩
  · cases h'
  · injection h' with h2
    injection h2 with h2
    injection h2 with h2
    exact⟨cur,by rw[h2];exact hh⟩
 have hd:(P.drop 1).length=n-1:=by rw[Yam,hn]
 refine⟨q,1,c-1,by rw[hd],by rw[hd];show n-1≤c-1;omega,by omega,⟨by rw[Zij,Nat.mul_one],fun _=>⟨_,rfl,(Ybc.1 hh).1,fun j u hu=> ?_⟩⟩,cur,hh⟩
 have hu2:(sv P)[1+j]?=some u:=by
  unfold sv at hu⊢;rw[Ycy,Ydb]at hu;rw[Ycy];exact hu
 have:=Zsa g3 (1+j) u hu2;rw[Zag,Ybj]at this;rw[Zag];exact this
def Zacr (z:Option (List (List ByteArray))) (w:World) (e:Ending) (w':World):Prop:=
 (∃ v Q,e= .returned (.tuple #[v, .int .i64 (match z with|some _=>0|none=>3)])∧QRow w' w.heap.size v Q∧Q.map Prod.snd=z.getD [])∧Below w.heap.size w w'
theorem Zagq (v:Value) (L:List Line) (g:ByteArray) (w:World) (hL:Lr w v L) (hr:Zab L=true):
 Calls prog 56 #[v, .string g] w (Zacr (Zis L g) w):=by
 obtain⟨i0,hi,hz0,hz1,hz2⟩:=info_parts Zhs;have HA:=Zhd (Znz v L w hL hr);have ha:=(Zef hr).1;have hx:=(Zof hr).1;have HEx:=Zhd (fun(W:World) (hb:Below w.heap.size w W)=>Zpc v L W (hL.below hb) hr)
 have h200:=Zas ha;have HFi:=Zhd (fun(A:Option Addr) (c:Nat) (Ap:Option Addr) (cp:Nat) (W:World) (h1:Rd W 3 A (Zal L).length (lines (Zal L))) (h2:(Zal L).length≤c) (h3:c≤maxLen) (h4:Rd W 1 Ap 2 (sv [Zec,g])) (h5:2≤cp) (h6:cp≤maxLen)=>Zbq A c (Zal L) Ap cp [Zec,g] W h1 h2 h3 ha h4 h5 h6)
 have HAr:=Zhd (fun(W:World)=>Zaht W 9 Zec g)
 have hG:Zis L g=match Zar (Zal L) [Zec,g]with
  |none=>none
  |some k=>some ((Zbo (subL (Zal L) k) (subL (Zal L) k).length).flatMap (Zaas L (subL (Zal L) k))):=rfl
 cases hf:Zar (Zal L) [Zec,g]with
 | none=>
   rw[hf]at HFi hG;simp only at hG;rw[hG];clear hL hr ha hx HEx hG hf;generalize Zal L=a at *;go_enter func56,ntmps56;go_wp2_with fail;refine HA.out.mono ?_;rintro e w1 ⟨⟨v1,rfl,ho1⟩,hb1⟩;obtain⟨A,c,e1,g1,g2,g3⟩:=Zbe ho1;subst e1;have HB1:=Zhd (hb1.alloc hb1.size (.cells #[.string Zec, .string g] 9));have HF1:=Zhd (HFi.out A c (some ⟨w1.heap.size,0,none⟩) 2 (w1.alloc (.cells #[.string Zec, .string g] 9)) (g3.alloc _) g1 g2 (HAr.out w1) (Yag _) (by unfold maxLen;omega))
   clear ho1 hb1 g3 HA HFi;go_wp2_with fail;refine HF1.out.mono ?_;rintro e w2 ⟨rfl,hb2⟩;have HB2:=Zhd (Zaa HB1.out hb2);go_wp2;go_ret2;unfold Zacr;exact⟨⟨_,[],rfl,Zqb _ _,rfl⟩,HB2.out⟩
 | some k=>
   rw[hf,show Zpd (some k)=(k:Int)from rfl]at HFi;rw[hf]at hG;simp only at hG;rw[hG];have hk:=Zce hf;have hsr:=Zul ha hk;obtain⟨hs1,hs2⟩:=subL_len hk;have HSb:=Zhd (fun(A:Option Addr) (c:Nat) (W:World) (h1:Rd W 3 A (Zal L).length (lines (Zal L))) (h2:(Zal L).length≤c) (h3:c≤maxLen)=>Zzn A c (Zal L) k W h1 h2 h3 ha hk)
   unfold Zacs at HSb;obtain⟨M,hM⟩: ∃ M,subL (Zal L) k=M:=⟨_,rfl⟩;rw[hM]at hsr hs1 hs2 HSb⊢;have HLv:=Zhd (fun(A:Option Addr) (c:Nat) (W:World) (h1:Rd W 3 A M.length (lines M)) (h2:M.length≤c) (h3:c≤maxLen)=>Zaha A c M W h1 h2 h3 hsr)
   have HPa:=Zhd (fun(A:Option Addr) (c:Nat) (n:Nat) (W:World) (h1:Rd W 3 A M.length (lines M)) (h2:M.length≤c) (h3:c≤maxLen) (hn:n<M.length)=>Zqa A c M n W h1 h2 h3 hsr hn)
   unfold Znw at HPa;have HPl:=Zhd (fun(n:Nat) (hn:n<M.length)=>pathB_lenR hsr hn)
   have hll:=Zjz M M.length
   have HLl:Hid (∀ j (hj:j<(Zbo M M.length).length),(Zbo M M.length)[j]<M.length):=fun j hj=>by
    have:=Yau hj;unfold Zbo at this;exact Ycz.1 (Ydg.1 this).1
   have HFd:=Zhd (fun(vt p:Value) (P:List ByteArray) (W:World) (h1:Lr W vt (Ziq L)) (h2:QOwn W (p,P)) (h3:P.length≤16)=>Ztq P.length vt p (Ziq L) P 0 W (by omega) h1 hx h2 (Yao _) h3)
   unfold Zin at HFd;have HFl:=Zhd (fun P=>Zqz hx P 0)
   have HfI:Hid (∀ i,Zaas L M i=if 1<(Zen M i).length then Zlz (Ziq L) ((Zen M i).drop 1) 0 else []):=fun _=>rfl
   clear hL hr ha hx hG hf hM hsr;generalize hac:Zal L=a at *;generalize Ziq L=X at *;generalize hlv:Zbo M M.length=K at *;generalize Zaas L M=ff at *;clear hac hlv;go_enter func56,ntmps56;go_wp2_with fail;refine HA.out.mono ?_;rintro e w1 ⟨⟨v1,rfl,ho1⟩,hb1⟩;obtain⟨A,c,e1,g1,g2,g3⟩:=Zbe ho1;subst e1;have HB1:=Zhd (hb1.alloc hb1.size (.cells #[.string Zec, .string g] 9));have HF1:=Zhd (HFi.out A c (some ⟨w1.heap.size,0,none⟩) 2 (w1.alloc (.cells #[.string Zec, .string g] 9)) (g3.alloc _) g1 g2 (HAr.out w1) (Yag _) (by unfold maxLen;omega))
   have HR1:=Zhd (g3.alloc (.cells #[.string Zec, .string g] 9));clear ho1 hb1 g3 HA HFi HAr;go_wp2_with fail;refine HF1.out.mono ?_;rintro e w2 ⟨rfl,hb2⟩;have HB2:=Zhd (Zaa HB1.out hb2);have HR2:=Zhd (HR1.out.below hb2);have HE2:=Zhd (HEx.out w2 HB2.out);clear hb2 HF1 HB1 HR1 HEx;go_wp2_with fail;refine HE2.out.mono ?_;rintro e w3 ⟨⟨v3,rfl,ho3⟩,hb3⟩;have HX3:=Zhd (Lr.own ho3);have HB3:=Zhd (Zaa HB2.out hb3);have HS3:=Zhd (HSb.out A c w3 (HR2.out.below hb3) g1 g2);clear ho3 hb3 HE2 HB2 HR2 HSb;go_wp2_with fail;refine HS3.out.mono ?_;rintro e w4 ⟨⟨v4,rfl,ho4⟩,hb4⟩;obtain⟨As,cs,e4,f1,f2,f3⟩:=Zbe ho4;subst e4;have HX4:=Zhd (HX3.out.below hb4);have HB4:=Zhd (Zaa HB3.out hb4);have HR4:=Zhd f3;have HV4:=Zhd (HLv.out As cs w4 f3 f1 f2);clear ho4 hb4 f3 HS3 HB3 HX3 HLv;go_wp2_with fail;refine HV4.out.mono ?_;rintro e w5 ⟨⟨v5,rfl,ho5⟩,hb5⟩;obtain⟨Ak,ck,e5,-,-,hRk⟩:=Zbe ho5;subst e5;have HX5:=Zhd (HX4.out.below hb5);have HB5:=Zhd (Zaa HB4.out hb5);have HR5:=Zhd (HR4.out.below hb5);have HRk:=Zhd hRk;clear ho5 hb5 hRk HV4 HB4 HX4 HR4;go_wp2;go_loopw [13,46] (fun vo vj wr=> ∃ (j:Nat) (Q:List PV),vj= .int .i64 j∧j≤K.length∧Q.length≤200*j∧Hid (QRow wr w5.heap.size vo Q)∧Hid (Q.map Prod.snd=(K.take j).flatMap ff)∧Hid (Below w5.heap.size w5 wr)) (fun _ vj _=>K.length-(intOf vj).toNat)
   case atStart=>exact⟨0,[],rfl,Yao _,Yao _,Zqb _ _,rfl,Yae _ _⟩
   case round=>
    obtain⟨j,Q,rfl,hj',hQl,HQ,HM,HB⟩:=hrel;by_cases hlt:j<K.length
    · obtain⟨bk,ok,rfl,habk,haddk,xk⟩:=HRk.out.intAt hlt;have x0:=(HB.out.cell (p:=⟨bk,ok+j,none⟩) habk).trans xk;have HS:=Zhd (Zrc ff K hlt);have hil:=HLl.out j hlt;have hfi:=HfI.out K[j];have hp16:=HPl.out _ hil;have HP:=Zhd (HPa.out As cs K[j] wr (HR5.out.below HB.out) f1 f2 hil);have hjI:(j:Int)<(K.length:Int):=by omega
      generalize Zen M K[j]=P at *;generalize ff K[j]=Fj at *;generalize K[j]=i at *;clear xk;go_wp2_with fail;refine HP.out.mono ?_;rintro e w6 ⟨v6,rfl,ho6,hb6⟩;obtain⟨A6,c6,e6,-,hc6,-⟩:=Zbe ho6;subst e6;have HB6:=Zhd (Zaa HB.out hb6);have HQ6:=Zhd (HQ.out.below hb6);by_cases hp1:1<P.length
      · rw[Yan hp1]at hfi;obtain⟨m,hm⟩: ∃ m,P.length=m+1:=⟨P.length-1,by omega⟩
        rw[hm]at ho6;obtain⟨q,c7,e7⟩:=Zck ho6;obtain⟨rfl,rfl⟩:A6=some ⟨q,0,none⟩∧c6=c7:=by
         injection e7 with e8 _ e9
         exact⟨e8,e9⟩
        have hcm:m+1≤c6:=by
         obtain⟨A9,c9,e9,g9,-,-⟩:=Zbe ho6;injection e9 with _ _ e10
         omega
        have hq:=Zana hm ho6 (by omega)
        rw[Yem]at hq;have HF6:=Zhd (HFd.out v3 _ (P.drop 1) w6 ((HX5.out.below HB.out).below hb6) hq (by rw[Yam];omega))
        have HFs:=HFl.out (P.drop 1);rw[←hfi]at HF6 HFs;have hmI:(1:Int)<(m:Int)+1:=by omega
        have hm0: ¬ (m=0):=by omega
        have hcI:(c6:Int)-1=((c6-1:Nat):Int):=by omega
        have hc1: ¬ (c6=1):=by omega
        have hc1': ¬ (1=c6):=by omega
        have hcI2:(1:Int)≤(c6:Int):=by omega
        unfold maxLen at hc6;rw[hm];clear ho6 hq hp1 hfi hm HQ HB HP x0;go_wp2_with fail;refine HF6.out.mono ?_;rintro e w7 ⟨⟨v7,Q7,rfl,hq7,hm7⟩,hb7⟩;obtain⟨A7,c7,e7,-,-,hR7,hnil7,-⟩:=Zcv hq7.1;subst e7;have HB7:=Zhd (Zaa HB6.out hb7);have HQ7:=Zhd (HQ6.out.below hb7);have hq7l:Q7.length≤200:=by
         have:(Q7.map Prod.snd).length≤200:=by rw[hm7];exact HFs
         rwa [Yaz]at this
        have HN7:=Zhd hnil7;have HR7:=Zhd hR7;have HO7:=Zhd hq7.2
        have HM8:Hid ((Q++Q7).map Prod.snd=(K.take (j+1)).flatMap ff):=by
         show _=_;rw[HS.out,Ybu,HM.out,hm7]
        clear hb7 hq7 hm7 hnil7 hR7 HF6 HQ6 HB6 HS HM HFs;go_wp2_with (at_builtin;refine Zob rfl _ _ 71 rfl w5 w7 34 i0 _ 1 24 underlying71 hi hz0 hz1 hz2 rfl (by decide) (by decide) HQ7.out.1 HB7.out rfl A7 Q7.length c7 (Q7.map Prod.fst) rfl HR7.out HN7.out (by intro u hu;obtain⟨y,hy,rfl⟩:=Yda.1 hu;exact(HO7.out y hy).cell) (by omega) ?_;intro v8 w8 hown8 hb8 hk8)
        have HQ8:=Zhd (Zwk hown8 HQ7.out.2 HO7.out hk8);have HB8:=Zhd hb8;clear hown8 hb8 hk8 HQ7 HB7 HR7 HN7 HO7;go_wp2_with fail;go_roundw
        case rel=>exact⟨j+1,Q++Q7,by go_num,by omega,by rw[Yak];omega,HQ8,HM8,HB8⟩
        case measure=>simp[intOf];omega
      · rw[Yad hp1]at hfi;have hp0:P.length≤1:=by omega
        have hpI: ¬ (1:Int)<(P.length:Int):=by omega
        have HM2:Hid (Q.map Prod.snd=(K.take (j+1)).flatMap ff):=by show _=_;rw[HS.out,hfi,Ybg,HM.out]
        clear ho6 hp1 hfi HQ HB HP HM x0 HS;go_wp2;go_roundw
        case rel=>exact⟨j+1,Q,by go_num,by omega,by omega,HQ6,HM2,HB6⟩
        case measure=>simp[intOf];omega
    · have hjf:K.take j=K:=Ybk (by omega)
      rw[hjf]at HM;have hnI: ¬ ((j:Int)<(K.length:Int)):=by omega
      have HBf:=Zhd (Zaa HB5.out HB.out);have hz5:=HB5.out.size;clear hjf;go_wp2;go_ret2;unfold Zacr;exact⟨⟨_,Q,rfl,⟨HQ.out.1.mono hz5,HQ.out.2⟩,HM.out⟩,HBf.out⟩
end Go.Proofs.Zq
namespace Edt
open Go Go.Lib Tre Sch Lns
def inhB (X:List Line) (P:List ByteArray):Bool:= !ownB (P.headD ⟨#[]⟩)&&(decide (P.length=1)||decide ((Zdb X P.dropLast).length=0))
def gsB (L:List Line) (g:ByteArray):List (List ByteArray):=(Zis L g).getD []
def Zgd (X:List Line):List Line→List (List ByteArray)→List Line×Int
 |out,[]=>(out,0)
 |out,p::ps=>if inhB X p then(if(addB out p).2≠0 then([],(addB out p).2)else Zgd X (addB out p).1 ps)else Zgd X out ps
def Zdd (L:List Line):List Line×Int:=
 if(Zdb (Zal L) [Zgz]).any fun g=>(Zis L g).isNone then([],3)
 else Zgd (Ziq L) (Ziq L) ((Zdb (Zal L) [Zgz]).flatMap (gsB L))
theorem Zait {X out:List Line} {p:List ByteArray} {ps:List (List ByteArray)} (h:inhB X p=false):Zgd X out (p::ps)=Zgd X out ps:=by
 rw[Zgd,Yad (by rw[h];simp)]
theorem Zafk {X out M:List Line} {p:List ByteArray} {ps:List (List ByteArray)} {er:Int} (h:inhB X p=true) (h2:addB out p=(M,er)) (h3:er≠0):Zgd X out (p::ps)=([],er):=by
 rw[Zgd,Yan h,h2,Yan h3]
theorem Zafl {X out M:List Line} {p:List ByteArray} {ps:List (List ByteArray)} (h:inhB X p=true) (h2:addB out p=(M,0)):Zgd X out (p::ps)=Zgd X M ps:=by
 rw[Zgd,Yan h,h2,Yad (by simp)]
theorem Zadk {α β:Type} {f:α→List β} {c:Nat}: ∀ {l:List α},(∀ x∈l,(f x).length≤c)→(l.flatMap f).length≤c*l.length
 | [],_=>Yao _
 | x::r,h=>by
   have h1:=h x (Yck ..);have h2:=Zadk (f:=f) (l:=r) fun y hy=>h y (Ych _ hy)
   rw[Ybw,Yak,Ybf,Nat.mul_add,Nat.mul_one];omega
section
variable {L:List Line} (hr:Zab L=true)
include hr
theorem Zaxr (g:ByteArray):(gsB L g).length≤40000:=by
 unfold gsB Zis;cases hf:Zar (Zal L) [Zec,g]with
 |none=>simp
 | some k=>
   simp only[Yfa];have ha:=(Zef hr).1;have hx:=(Zof hr).1;have hk:=Zce hf;have h1:=Zjz (subL (Zal L) k) (subL (Zal L) k).length;have h2:=(Go.Proofs.Zq.subL_len hk).2;have h3:=(Zac ha).1
   have h4:=Zadk (f:=Zaas L (subL (Zal L) k)) (c:=200) (l:=Zbo (subL (Zal L) k) (subL (Zal L) k).length) fun i _=>by
    unfold Zaas;split
    · exact Zqz hx _ _
    · exact Yao _
   omega
theorem Zaxs {g:ByteArray} {q:List ByteArray} (h:q∈gsB L g):0<q.length∧q.length≤16:=by
 unfold gsB Zis at h;cases hf:Zar (Zal L) [Zec,g]with
 |none=>rw[hf]at h;simp at h
 | some k=>
   rw[hf]at h;simp only[Yfa]at h;have ha:=(Zef hr).1;have hk:=Zce hf;obtain⟨i,hi,hq⟩:=Ydf.1 h;unfold Zbo at hi;have hil:=Ycz.1 (Ydg.1 hi).1;unfold Zaas at hq;split at hq
   · rename_i h1;have h2:=Zmv _ _ _ _ _ hq;rw[Yam]at h2;have h3:=Go.Proofs.Zq.pathB_lenR (Zul ha hk) hil;omega
   · cases hq
end
end Edt
namespace Go.Proofs.Zq
open Tryz
open Go Go.RowKit Go.Sort Tre Lx Prs Lns Edt Sch
theorem Zvv (vt p:Value) (X:List Line) (P:List ByteArray) (w:World) (hX:Lr w vt X) (hr:Zab X=true) (hP:QOwn w (p,P)) (h0:0<P.length) (h16:P.length≤16):
 Calls prog 57 #[vt,p] w fun e w'=>e= .returned (.bool (inhB X P))∧Below w.heap.size w w':=by
 obtain⟨b,o,c,e1,hc1,hc2,hR,cur,hh⟩:=hP;obtain rfl:p= .slice (some ⟨b,o,none⟩) P.length c:=e1;simp only at hc1 hR;obtain⟨m,hm⟩: ∃ m,P.length=m+1:=⟨P.length-1,by omega⟩
 have hdl:P.dropLast=P.take m:=by rw[Ydk,hm];rfl
 have hdn:P.dropLast.length=m:=by rw[Yci,hm];rfl
 have hhd:P.headD ⟨#[]⟩=P[0]:=by
  cases P with
  |nil=>simp at h0
  |cons a r=>rfl
 obtain⟨b',o',e',-,-,x0⟩:=hR.strAt h0;cases e';rw[Yef]at x0;have HW:=Zhd (fun(W:World) (hb:Below w.heap.size w W)=>Zsy vt (.slice (some ⟨b,o,none⟩) m c) X P.dropLast W (hX.below hb) hr ⟨_,c,by rw[hdn],by omega,hc2,by rw[hdn,hdl];exact Zfy (hR.below hb) (by omega)⟩)
 have HO:=Zhd (Zami P[0] w);unfold inhB;rw[hhd];generalize P[0]=s at *;generalize Zdb X P.dropLast=ws at *;rw[hm];unfold maxLen at hc2;have hcI:(m:Int)≤(c:Int):=by omega
 have hm0:(0:Int)≤(m:Int):=by omega
 have hm63:(m:Int)+1≤9223372036854775807:=by omega
 have hm1:(0:Int)<(m:Int)+1:=by omega
 clear hX hR hh hdl hdn hhd hm h0 hc1;cases ho:ownB s with
 | true=>
   rw[ho]at HO;go_enter func57,ntmps57;go_wp2_with fail;refine HO.out.mono ?_;rintro e w2 ⟨rfl,rfl⟩;go_wp2;go_ret;exact⟨rfl,Yae _ _⟩
 | false=>
   rw[ho]at HO;by_cases h1:m=0
   · subst h1;go_enter func57,ntmps57;go_wp2_with fail;refine HO.out.mono ?_;rintro e w2 ⟨rfl,rfl⟩;go_wp2;go_ret;exact⟨rfl,Yae _ _⟩
   · have hq1:(((m:Int)+1)==1)=false:=by rw[Yai];omega
     have hq2:decide (m+1=1)=false:=by rw[Yah];omega
     rw[hq2];go_enter func57,ntmps57;go_wp2_with fail;refine HO.out.mono ?_;rintro e w2 ⟨rfl,rfl⟩;have HW2:=Zhd (HW.out w2 (Yae _ _));go_wp2_with fail;refine HW2.out.mono ?_;rintro e w3 ⟨⟨v3,rfl,ho3⟩,hb3⟩;obtain⟨A3,c3,e3,-,-,-⟩:=Zbe ho3;subst e3;by_cases hw0:ws.length=0
     · have hq3:((ws.length:Int)==0)=true:=by rw[beq_iff_eq];omega
       have hq4:decide (ws.length=0)=true:=Yal hw0;clear ho3 hw0;go_wp2;go_ret;rw[hq4];exact⟨rfl,hb3⟩
     · have hq3:((ws.length:Int)==0)=false:=by rw[Yai];omega
       have hq4:decide (ws.length=0)=false:=Yah hw0;clear ho3;go_wp2;go_ret;rw[hq4];exact⟨rfl,hb3⟩
end Go.Proofs.Zq
