import Derived.Test.YtkbojechhmmkcaaGreatDoorJ26
set_option linter.unusedVariables false
set_option linter.unusedSimpArgs false
set_option maxHeartbeats 4000000
set_option maxRecDepth 100000
namespace Edt
open Go Go.Lib Tre Sch Lns
def Ps.ses (S:Ps) (k:Nat):Ss:=if k=0 then S.s0 else if k=1 then S.s1 else S.s2
def Ps.setSes (S:Ps) (k:Nat) (x:Ss):Ps:=if k=0 then {S with s0:=x}else if k=1 then {S with s1:=x}else {S with s2:=x}
end Edt
namespace Go.Proofs.Zq
open Tryz
open Go Go.RowKit Go.Sort Tre Lx Prs Lns Edt Sch
structure PlC (w:World) (C:Array Value) (S:Ps):Prop where
 size:C.size=15
 run: ∃ v,C[0]?=some v∧Lr w v S.run
 revs: ∃ A n c,C[1]?=some (.slice A n c)∧RvR w A n c S.revs
 opn: ∀ k,k<3→C[2+k*3]?=some (.bool (S.ses k).opn)
 base: ∀ k,k<3→ ∃ v,C[2+k*3+1]?=some v∧Lr w v (S.ses k).base
 mine: ∀ k,k<3→ ∃ v,C[2+k*3+2]?=some v∧Lr w v (S.ses k).mine
 lock:C[11]?=some (.int .i64 S.lock)
 clock:C[12]?=some (.int .i64 S.clock)
 dead:C[13]?=some (.int .i64 S.dead)
 back: ∃ v,C[14]?=some v∧Lr w v S.back
theorem of3 {p:Nat→Prop} (h0:p 0) (h1:p 1) (h2:p 2) (k:Nat) (h:k<3):p k:=by
 match k,h with
 |0,_=>exact h0
 |1,_=>exact h1
 |2,_=>exact h2
theorem PlR.cells {w:World} {v:Value} {S:Ps} (h:PlR w v S): ∃ C,v= .agg C∧PlC w C S:=by
 obtain⟨a0,ar,a1,a2,a3,a4,a5,a6,ab,n0,nr,n1,n2,n3,n4,n5,n6,nb,c0,cr,c1,c2,c3,c4,c5,c6,cb,e,h0,hr,h1,h2,h3,h4,h5,h6,h7⟩:=h;refine⟨_,e,rfl,⟨_,rfl,h0⟩,⟨_,_,_,rfl,hr⟩,fun k hk=> ?_,fun k hk=> ?_,fun k hk=> ?_,rfl,rfl,rfl,⟨_,rfl,h7⟩⟩
 · exact of3 (p:=fun k=>(plv a0 ar a1 a2 a3 a4 a5 a6 ab n0 nr n1 n2 n3 n4 n5 n6 nb c0 cr c1 c2 c3 c4 c5 c6 cb S.s0.opn S.s1.opn S.s2.opn S.lock S.clock S.dead)[2+k*3]?=some (.bool (S.ses k).opn)) rfl rfl rfl k hk
 · exact of3 (p:=fun k=> ∃ v,(plv a0 ar a1 a2 a3 a4 a5 a6 ab n0 nr n1 n2 n3 n4 n5 n6 nb c0 cr c1 c2 c3 c4 c5 c6 cb S.s0.opn S.s1.opn S.s2.opn S.lock S.clock S.dead)[2+k*3+1]?=some v∧Lr w v (S.ses k).base) ⟨_,rfl,h1⟩ ⟨_,rfl,h3⟩ ⟨_,rfl,h5⟩ k hk
 · exact of3 (p:=fun k=> ∃ v,(plv a0 ar a1 a2 a3 a4 a5 a6 ab n0 nr n1 n2 n3 n4 n5 n6 nb c0 cr c1 c2 c3 c4 c5 c6 cb S.s0.opn S.s1.opn S.s2.opn S.lock S.clock S.dead)[2+k*3+2]?=some v∧Lr w v (S.ses k).mine) ⟨_,rfl,h2⟩ ⟨_,rfl,h4⟩ ⟨_,rfl,h6⟩ k hk
theorem Lr.slice {w:World} {v:Value} {M:List Line} (h:Lr w v M): ∃ A n c,v= .slice A n c:=by
 obtain⟨A,c,e,-⟩:=h;exact⟨_,_,_,e⟩
theorem PlC.plR {w:World} {C:Array Value} {S:Ps} (h:PlC w C S):PlR w (.agg C) S:=by
 obtain⟨v0,e0,h0⟩:=h.run;obtain⟨ar,nr,cr,er,hr⟩:=h.revs;obtain⟨v1,e1,h1⟩:=h.base 0 (by decide)
 obtain⟨v2,e2,h2⟩:=h.mine 0 (by decide)
 obtain⟨v3,e3,h3⟩:=h.base 1 (by decide)
 obtain⟨v4,e4,h4⟩:=h.mine 1 (by decide)
 obtain⟨v5,e5,h5⟩:=h.base 2 (by decide)
 obtain⟨v6,e6,h6⟩:=h.mine 2 (by decide)
 obtain⟨vb,eb,hb⟩:=h.back;obtain⟨a0,n0,c0,rfl⟩:=h0.slice;obtain⟨a1,n1,c1,rfl⟩:=h1.slice;obtain⟨a2,n2,c2,rfl⟩:=h2.slice;obtain⟨a3,n3,c3,rfl⟩:=h3.slice;obtain⟨a4,n4,c4,rfl⟩:=h4.slice;obtain⟨a5,n5,c5,rfl⟩:=h5.slice;obtain⟨a6,n6,c6,rfl⟩:=h6.slice;obtain⟨ab,nb,cb,rfl⟩:=hb.slice;refine⟨a0,ar,a1,a2,a3,a4,a5,a6,ab,n0,nr,n1,n2,n3,n4,n5,n6,nb,c0,cr,c1,c2,c3,c4,c5,c6,cb, ?_,h0,hr,h1,h2,h3,h4,h5,h6,hb⟩;congr 1;refine Array.ext_getElem? fun i=> ?_
 match i with
 |0=>exact e0
 |1=>exact er
 |2=>exact h.opn 0 (by decide)
 |3=>exact e1
 |4=>exact e2
 |5=>exact h.opn 1 (by decide)
 |6=>exact e3
 |7=>exact e4
 |8=>exact h.opn 2 (by decide)
 |9=>exact e5
 |10=>exact e6
 |11=>exact h.lock
 |12=>exact h.clock
 |13=>exact h.dead
 |14=>exact eb
 |i+15=>rw[Ydy (by rw[h.size];omega)];exact(Ydy (by unfold plv;simp)).symm
theorem PlC.below {w w':World} {C:Array Value} {S:Ps} (h:PlC w C S) (hb:Below w.heap.size w w'):PlC w' C S:=
 ⟨h.size,(let ⟨v,e,k⟩:=h.run;⟨v,e,k.below hb⟩),(let ⟨a,n,c,e,k⟩:=h.revs;⟨a,n,c,e,k.below hb⟩),h.opn,fun k hk=>(let ⟨v,e,g⟩:=h.base k hk;⟨v,e,g.below hb⟩),fun k hk=>(let ⟨v,e,g⟩:=h.mine k hk;⟨v,e,g.below hb⟩),h.lock,h.clock,h.dead,let ⟨v,e,k⟩:=h.back;⟨v,e,k.below hb⟩⟩
theorem PlC.nostr {w:World} {C:Array Value} {S:Ps} (h:PlC w C S):C.toList.all (fun u=>match u with| .string _=>false|_=>true)=true:=by
 obtain⟨a0,ar,a1,a2,a3,a4,a5,a6,ab,n0,nr,n1,n2,n3,n4,n5,n6,nb,c0,cr,c1,c2,c3,c4,c5,c6,cb,e,-⟩:=h.plR;injection e with e
 subst e;rfl
theorem PlC.one {w:World} {C:Array Value} {S:Ps} (h:PlC w C S):C.toList.all (·.oneCell')=true:=by
 obtain⟨a0,ar,a1,a2,a3,a4,a5,a6,ab,n0,nr,n1,n2,n3,n4,n5,n6,nb,c0,cr,c1,c2,c3,c4,c5,c6,cb,e,-⟩:=h.plR;injection e with e
 subst e;rfl
theorem PlC.off {p:Nat} {w W:World} {C D:Array Value} {S:Ps} {T:TypeId} (h:PlC w C S) (hp:Bl w p D T) (hT:RevB T=false) (hD:D.toList.all (fun u=>match u with| .string _=>false|_=>true)=true) (ho:Off p w W):PlC W C S:=
 ⟨h.size,(let ⟨v,e,k⟩:=h.run;⟨v,e,k.off hp hD ho⟩),(let ⟨a,n,c,e,k⟩:=h.revs;⟨a,n,c,e,k.off hp hT hD ho⟩),h.opn,fun k hk=>(let ⟨v,e,g⟩:=h.base k hk;⟨v,e,g.off hp hD ho⟩),fun k hk=>(let ⟨v,e,g⟩:=h.mine k hk;⟨v,e,g.off hp hD ho⟩),h.lock,h.clock,h.dead,let ⟨v,e,k⟩:=h.back;⟨v,e,k.off hp hD ho⟩⟩
theorem Zkm (S:Ps) (k j:Nat) (x:Ss) (hk:k<3) (hj:j<3):(S.setSes k x).ses j=if k=j then x else S.ses j:=by
 have:(k=0∨k=1∨k=2)∧(j=0∨j=1∨j=2):=by omega
 obtain⟨rfl|rfl|rfl,rfl|rfl|rfl⟩:=this<;>rfl
theorem Zbd (S:Ps) (k:Nat) (x:Ss):(S.setSes k x).run=S.run∧(S.setSes k x).revs=S.revs∧(S.setSes k x).lock=S.lock∧(S.setSes k x).clock=S.clock∧(S.setSes k x).dead=S.dead∧(S.setSes k x).back=S.back:=by
 unfold Ps.setSes;split
 · exact⟨rfl,rfl,rfl,rfl,rfl,rfl⟩
 · split<;>exact⟨rfl,rfl,rfl,rfl,rfl,rfl⟩
theorem PlC.setSes {w:World} {C:Array Value} {S:Ps} (h:PlC w C S) (k:Nat) (hk:k<3) (b:Bool) (v1 v2:Value) (B M:List Line) (h1:Lr w v1 B) (h2:Lr w v2 M):
 PlC w (((C.setIfInBounds (2+k*3) (.bool b)).setIfInBounds (2+k*3+1) v1).setIfInBounds (2+k*3+2) v2) (S.setSes k ⟨b,B,M⟩):=by
 obtain⟨f0,f1,f2,f3,f4,f5⟩:=Zbd S k ⟨b,B,M⟩;have hs:=h.size
 have g: ∀ j,(((C.setIfInBounds (2+k*3) (.bool b)).setIfInBounds (2+k*3+1) v1).setIfInBounds (2+k*3+2) v2)[j]?=if j=2+k*3+2 then some v2 else if j=2+k*3+1 then some v1 else if j=2+k*3 then some (.bool b)else C[j]?:=fun j=>by
  simp only[Ycq,Array.size_setIfInBounds,hs];by_cases e2:j=2+k*3+2
  · rw[Yan e2.symm,Yan (by omega),Yan e2]
  · rw[Yad (Ne.symm e2),Yad e2];by_cases e1:j=2+k*3+1
    · rw[Yan e1.symm,Yan (by omega),Yan e1]
    · rw[Yad (Ne.symm e1),Yad e1];by_cases e0:j=2+k*3
      · rw[Yan e0.symm,Yan (by omega),Yan e0]
      · rw[Yad (Ne.symm e0),Yad e0]
 refine⟨by simp[hs], ?_, ?_,fun j hj=> ?_,fun j hj=> ?_,fun j hj=> ?_, ?_, ?_, ?_, ?_⟩
 · rw[g,Yad (by omega),Yad (by omega),Yad (by omega),f0];exact h.run
 · rw[g,Yad (by omega),Yad (by omega),Yad (by omega),f1];exact h.revs
 · rw[g,Yad (by omega),Yad (by omega),Zkm S k j _ hk hj]
   by_cases e:k=j
   · subst e;rw[Yan rfl,Yan rfl]
   · rw[Yad (by omega),Yad e];exact h.opn j hj
 · rw[g,Yad (by omega),Zkm S k j _ hk hj]
   by_cases e:k=j
   · subst e;rw[Yan rfl,Yan rfl];exact⟨_,rfl,h1⟩
   · rw[Yad (by omega),Yad (by omega),Yad e];exact h.base j hj
 · rw[g,Zkm S k j _ hk hj];by_cases e:k=j
   · subst e;rw[Yan rfl,Yan rfl];exact⟨_,rfl,h2⟩
   · rw[Yad (by omega),Yad (by omega),Yad (by omega),Yad e];exact h.mine j hj
 · rw[g,Yad (by omega),Yad (by omega),Yad (by omega),f2];exact h.lock
 · rw[g,Yad (by omega),Yad (by omega),Yad (by omega),f3];exact h.clock
 · rw[g,Yad (by omega),Yad (by omega),Yad (by omega),f4];exact h.dead
 · rw[g,Yad (by omega),Yad (by omega),Yad (by omega),f5];exact h.back
theorem PlC.setLock {w:World} {C:Array Value} {S:Ps} (h:PlC w C S) (l:Int):PlC w (C.setIfInBounds 11 (.int .i64 l)) {S with lock:=l}:=by
 have hs:=h.size
 have g: ∀ j,(C.setIfInBounds 11 (.int .i64 l))[j]?=if j=11 then some (.int .i64 l)else C[j]?:=fun j=>by
  rw[Ycq];by_cases e:j=11
  · rw[Yan e.symm,Yan (by omega),Yan e]
  · rw[Yad (Ne.symm e),Yad e]
 refine⟨by simp[hs], ?_, ?_,fun j hj=> ?_,fun j hj=> ?_,fun j hj=> ?_, ?_, ?_, ?_, ?_⟩
 · rw[g,Yad (by omega)];exact h.run
 · rw[g,Yad (by omega)];exact h.revs
 · rw[g,Yad (by omega)];exact h.opn j hj
 · rw[g,Yad (by omega)];exact h.base j hj
 · rw[g,Yad (by omega)];exact h.mine j hj
 · rw[g,Yan rfl]
 · rw[g,Yad (by omega)];exact h.clock
 · rw[g,Yad (by omega)];exact h.dead
 · rw[g,Yad (by omega)];exact h.back
theorem lvRp {w:World} {b:Nat} {C:Array Value} (h:Bl w b C 39) (hs:C.size=2):(loadVar 39 ⟨b,0,none⟩).run prog w= .ok (.agg C) w:=by
 have:=run_loadVar_mid (P:=prog) w b 0 39 C.toList _ h.range underlying39 rfl (by rw[Yav,hs];exact Zbv)
 simpa using this
theorem Zcq {fn:Func} {t:Array Value} {W:World} {q r:Nat} {D R:Array Value} (hf:fn.results= #[.cell 4 32, .cell 5 39]) (h4:t.getD 4 undef= .pointer (some ⟨q,0,none⟩)) (h5:t.getD 5 undef= .pointer (some ⟨r,0,none⟩))
 (hq:Bl W q D 32) (hd:D.size=15) (hr:Bl W r R 39) (hrs:R.size=2):(results fn t).run prog W= .ok (.tuple #[.agg D, .agg R]) W:=by
 have e1:=lvPl hq hd;have e2:=lvRp hr hrs;unfold results;rw[hf];simp only[List.mapM_toArray,List.mapM_cons,List.mapM_nil,h4,h5,asAddr,Sem.run_bind,Sem.run_pure,Result.andThen_ok,e1,e2,Sem.run_map];rfl
abbrev rops (s1 s2:Nat) (t1 t2 t3 t4:TypeId) (p1 p2 p3 p4:String) (f1 f2 f3 f4:Array Edge) (l:Array (Nat×Operand)):Array Oper:=
 #[{dst:=some s1,op:= .load 32 (.tmp 2),type:=t1,pos:=p1,after:=f1,guard:=none},{dst:=some s2,op:= .build 39 l,type:=t2,pos:=p2,after:=f2,guard:=none},{dst:=none,op:= .store 32 (.tmp 4) (.tmp s1),type:=t3,pos:=p3,after:=f3,guard:=none},{dst:=none,op:= .store 39 (.tmp 5) (.tmp s2),type:=t4,pos:=p4,after:=f4,guard:=none}]
theorem Zbi {id s1 s2:Nat} {t1 t2 t3 t4:TypeId} {p1 p2 p3 p4:String} {f1 f2 f3 f4:Array Edge} {l:Array (Nat×Operand)} {Q:Exit→Act→World→Prop} {a:Act} {W:World} {p q r:Nat} {C Z R Y:Array Value}
 (hp:Bl W p C 32) (hc:C.size=15) (h1:C.toList.all (·.oneCell')=true) (hq:Bl W q Z 32) (hz:Z.size=15) (hr:Bl W r Y 39) (hy:Y.size=2) (hR:R.size=2) (hR1:R.toList.all (·.oneCell')=true) (hqr:r≠q)
 (a2:a.eval (.tmp 2)= .pointer (some ⟨p,0,none⟩))
 (hb:(execOp (a.put (some s1) (.agg C)).eval {dst:=some s2,op:= .build 39 l,type:=t2,pos:=p2,after:=f2,guard:=none}).run prog W= .ok (.value (.agg R)) W)
 (a4:((a.put (some s1) (.agg C)).put (some s2) (.agg R)).eval (.tmp 4)= .pointer (some ⟨q,0,none⟩)) (a1:((a.put (some s1) (.agg C)).put (some s2) (.agg R)).eval (.tmp s1)= .agg C)
 (a5:(((a.put (some s1) (.agg C)).put (some s2) (.agg R)).put none undef).eval (.tmp 5)= .pointer (some ⟨r,0,none⟩)) (a6:(((a.put (some s1) (.agg C)).put (some s2) (.agg R)).put none undef).eval (.tmp s2)= .agg R)
 (h: ∀ W',Off q W (W.setCells q 0 C.toList)→Off r (W.setCells q 0 C.toList) W'→(∀ B,B≤q→B≤r→ ∀ {w0},Below B w0 W→Below B w0 W')→Bl W' q C 32→Bl W' r R 39→Q .normal ((((a.put (some s1) (.agg C)).put (some s2) (.agg R)).put none undef).put none undef) W'):
 (Code.region id (rops s1 s2 t1 t2 t3 t4 p1 p2 p3 p4 f1 f2 f3 f4 l) false).wp prog Q a W:=by
 refine wp_region_lit ?_;refine wpList_load_mid rfl 32 _ rfl p 0 a2 C.toList _ hp.range underlying32 rfl (by rw[Yav,hc];exact Zai) ?_
 refine wpList_plain rfl fun K hK=> ?_
 unfold Oper.wp;rw[show C.toList.toArray=C from rfl,hb];refine hK _ _ ?_;refine wpList_store_mid rfl 32 _ _ rfl q 0 C a4 a1 (hq.there (by omega)) (by rw[hc];exact Zai) (Ybd.2 fun v hv=>Ybq.1 h1 v (by simpa using hv)) ?_
 have hr1:=hr.others (o:=0) hqr C.toList;have hq1:=hq.sets (D:=C) (by omega)
 refine wpList_store_mid rfl 39 _ _ rfl r 0 R a5 a6 (hr1.there (by omega)) (by rw[hR];exact Zbv) (Ybd.2 fun v hv=>Ybq.1 hR1 v (by simpa using hv)) ?_
 refine wpList_nil ?_;exact h _ ((Off.refl _ _).setCells _ 0) ((Off.refl _ _).setCells _ 0) (fun B b1 b2 w0 hb=>Zak b2 _ _ (Zak b1 _ _ hb)) (hq1.others (Ne.symm hqr) _) (hr1.sets (by omega))
end Go.Proofs.Zq
namespace Edt
open Go Go.Lib Tre Sch Lns
def Zfv (S:Ps) (kind:Int) (k:Nat):Ps×Int×Int:=
 if kind=1 then if(S.ses k).opn then(S,4,0)else(S.setSes k ⟨true,S.run,S.run⟩,0,0)
 else if kind=2 then({S.setSes k ⟨false,[],[]⟩with lock:=if S.lock=(k:Int)+1 then 0 else S.lock},0,0)
 else if kind=3 then if S.lock≠0∧S.lock≠(k:Int)+1 then(S,9,0)else({S with lock:=(k:Int)+1},0,0)
 else if kind=4 then if S.lock≠(k:Int)+1 then(S,3,0)else({S with lock:=0},0,0)
 else(S,0,0)
end Edt
namespace Go.Proofs.Zq
open Tryz
open Go Go.RowKit Go.Sort Tre Lx Prs Lns Edt Sch
attribute [local go_sem] Zqj Zno
theorem Zaqs (C:Array Value) (S:Ps) (kind:Int) (k:Nat) (vp:Value) (wd:ByteArray) (bt nn:Int) (tx:ByteArray) (w:World) (hP:PlC w C S) (hk:k<3) (hvp:vp.oneCell'=true):
 Calls prog 22 #[.agg C, .agg #[.int .i64 kind, .int .i64 (k:Int),vp, .string wd, .int .i64 bt, .int .i64 nn, .string tx]] w (Zdk (Zfv S kind k) w):=by
 have hcs:=hP.size;obtain⟨wp,hwp⟩: ∃ wp,w.alloc (.cells C 32)=wp:=⟨_,rfl⟩;obtain⟨wo,hwo⟩: ∃ wo,wp.alloc (.cells #[.int .i64 kind, .int .i64 (k:Int),vp, .string wd, .int .i64 bt, .int .i64 nn, .string tx] 36)=wo:=⟨_,rfl⟩;obtain⟨wq,hwq⟩: ∃ wq,wo.alloc (.cells #[.slice none 0 0, .slice none 0 0, .bool false, .slice none 0 0, .slice none 0 0, .bool false, .slice none 0 0, .slice none 0 0, .bool false, .slice none 0 0, .slice none 0 0, .int .i64 0, .int .i64 0, .int .i64 0, .slice none 0 0] 32)=wq:=⟨_,rfl⟩;obtain⟨wr,hwr⟩: ∃ wr,wq.alloc (.cells #[.int .i64 0, .int .i64 0] 39)=wr:=⟨_,rfl⟩;have hs1:w.heap.size<wp.heap.size:=by rw[←hwp];simp
 have hs2:wp.heap.size<wo.heap.size:=by rw[←hwo];simp
 have hs3:wo.heap.size<wq.heap.size:=by rw[←hwq];simp
 have hs4:wq.heap.size<wr.heap.size:=by rw[←hwr];simp
 have Bp:Bl wr w.heap.size C 32:=by rw[←hwr,←hwq,←hwo,←hwp];exact(((Bl.new _ _ _).alloc _).alloc _).alloc _
 have Bo:Bl wr wp.heap.size #[.int .i64 kind, .int .i64 (k:Int),vp, .string wd, .int .i64 bt, .int .i64 nn, .string tx] 36:=by rw[←hwr,←hwq,←hwo];exact((Bl.new _ _ _).alloc _).alloc _
 have Bq:Bl wr wo.heap.size #[.slice none 0 0, .slice none 0 0, .bool false, .slice none 0 0, .slice none 0 0, .bool false, .slice none 0 0, .slice none 0 0, .bool false, .slice none 0 0, .slice none 0 0, .int .i64 0, .int .i64 0, .int .i64 0, .slice none 0 0] 32:=by rw[←hwr,←hwq];exact(Bl.new _ _ _).alloc _
 have Br:Bl wr wq.heap.size #[.int .i64 0, .int .i64 0] 39:=by rw[←hwr];exact Bl.new _ _ _
 have HB:Hid (Below w.heap.size w wr):=by
  show Below _ _ _;rw[←hwr,←hwq,←hwo,←hwp];refine Below.alloc (Below.alloc (Below.alloc (Below.alloc (Yae _ _) (Yag _) _) ?_ _) ?_ _) ?_ _<;>simp<;>omega
 obtain⟨v1,ev1,hb1⟩:=hP.base k hk;obtain⟨v2,ev2,hm1⟩:=hP.mine k hk;obtain⟨A1,n1,c1,rfl⟩:=hb1.slice;obtain⟨A2,n2,c2,rfl⟩:=hm1.slice;have HP:Hid (∀ W,Below w.heap.size w W→PlC W C S):=fun W hb=>hP.below hb
 have px0:wr.cell? ⟨w.heap.size,2+k*3,none⟩=some (.bool (S.ses k).opn):=(Bp.cell _).trans (hP.opn k hk);have px1:wr.cell? ⟨w.heap.size,2+k*3+1,none⟩=some (.slice A1 n1 c1):=(Bp.cell _).trans ev1;have px2:wr.cell? ⟨w.heap.size,2+k*3+2,none⟩=some (.slice A2 n2 c2):=(Bp.cell _).trans ev2;have px3:wr.cell? ⟨w.heap.size,11,none⟩=some (.int .i64 S.lock):=(Bp.cell _).trans hP.lock;have ox:wr.cell? ⟨wp.heap.size,1,none⟩=some (.int .i64 (k:Int)):=(Bo.cell _).trans rfl;have hwk:IntKind.i64.wrap ((k:Int)+1)=(k:Int)+1:=by rw[IntKind.wrap_i64];omega
 have hki:(k:Int)<3:=by omega
 have hk0:(0:Int)≤(k:Int):=by omega
 obtain⟨z,hz0⟩: ∃ z,Zfv S kind k=z:=⟨_,rfl⟩;rw[hz0];have hz:=Zhd hz0;clear hz0;go_enter func22,ntmps22;go_upto_region 1 with fail
 go_region_held3 (fun W=>W.cell? ⟨w.heap.size,2+k*3,none⟩=some (.bool (S.ses k).opn)∧W.cell? ⟨w.heap.size,2+k*3+1,none⟩=some (.slice A1 n1 c1)∧W.cell? ⟨w.heap.size,2+k*3+2,none⟩=some (.slice A2 n2 c2)∧W.cell? ⟨w.heap.size,11,none⟩=some (.int .i64 S.lock)∧W.cell? ⟨wp.heap.size,1,none⟩=some (.int .i64 (k:Int))) (go_keep) ((fail))
 obtain⟨ws,hws⟩: ∃ ws,(wr.alloc (.cells #[.bool (S.ses k).opn, .slice A1 n1 c1, .slice A2 n2 c2] 29)).drew=ws:=⟨_,rfl⟩;rw[hws];have HBs:Hid (Below w.heap.size w ws):=by show Below _ _ _;rw[←hws];exact(HB.out.alloc HB.out.size _).drew
 replace Bp:Bl ws w.heap.size C 32:=by rw[←hws];exact(Bp.alloc _).drew
 replace Bo:Bl ws wp.heap.size #[.int .i64 kind, .int .i64 (k:Int),vp, .string wd, .int .i64 bt, .int .i64 nn, .string tx] 36:=by rw[←hws];exact(Bo.alloc _).drew
 replace Bq:Bl ws wo.heap.size #[.slice none 0 0, .slice none 0 0, .bool false, .slice none 0 0, .slice none 0 0, .bool false, .slice none 0 0, .slice none 0 0, .bool false, .slice none 0 0, .slice none 0 0, .int .i64 0, .int .i64 0, .int .i64 0, .slice none 0 0] 32:=by rw[←hws];exact(Bq.alloc _).drew
 replace Br:Bl ws wq.heap.size #[.int .i64 0, .int .i64 0] 39:=by rw[←hws];exact(Br.alloc _).drew
 have Bs:Bl ws wr.heap.size #[.bool (S.ses k).opn, .slice A1 n1 c1, .slice A2 n2 c2] 29:=by rw[←hws];exact(Bl.new _ _ _).drew
 have hne:wq.heap.size≠wo.heap.size:=by omega
 have hge1:w.heap.size≤wo.heap.size:=by omega
 have hge2:w.heap.size≤wq.heap.size:=by omega
 have hn1:wo.heap.size≠w.heap.size:=by omega
 have hn2:wq.heap.size≠w.heap.size:=by omega
 obtain⟨v0,ev0,hr0⟩:=hP.run;obtain⟨A0,n0,c0,rfl⟩:=hr0.slice;replace px0:ws.cell? ⟨w.heap.size,2+k*3,none⟩=some (.bool (S.ses k).opn):=(Bp.cell _).trans (hP.opn k hk);replace px1:ws.cell? ⟨w.heap.size,2+k*3+1,none⟩=some (.slice A1 n1 c1):=(Bp.cell _).trans ev1;replace px2:ws.cell? ⟨w.heap.size,2+k*3+2,none⟩=some (.slice A2 n2 c2):=(Bp.cell _).trans ev2;replace px3:ws.cell? ⟨w.heap.size,11,none⟩=some (.int .i64 S.lock):=(Bp.cell _).trans hP.lock;have px4:ws.cell? ⟨w.heap.size,0,none⟩=some (.slice A0 n0 c0):=(Bp.cell _).trans ev0;have pf: ∀ j,ws.frozen? ⟨w.heap.size,j,none⟩=false:=Bp.froz;have ox0:ws.cell? ⟨wp.heap.size,0,none⟩=some (.int .i64 kind):=(Bo.cell _).trans rfl;replace ox:ws.cell? ⟨wp.heap.size,1,none⟩=some (.int .i64 (k:Int)):=(Bo.cell _).trans rfl;have sx0:ws.cell? ⟨wr.heap.size,0,none⟩=some (.bool (S.ses k).opn):=(Bs.cell _).trans rfl;have HR:=Zhd hr0;have hk3:k=0∨k=1∨k=2:=by omega
 have HK3:=Zhd hk3;clear hws hwr hwq hwo hwp hb1 hm1 hr0 ev0 ev1 ev2 Bs Bo HB hk3;by_cases k1:kind=1
 · subst k1;by_cases ho:(S.ses k).opn=true
   · rw[ho]at sx0 px0
     have HZ:Hid (z=(S,4,0)):=by
      show z=_;rw[←hz.out];unfold Zfv;rw[Yan rfl,Yan ho]
     go_upto_region 5 with fail
     have hpc: ∀ W,Below w.heap.size w W→PlC W C S:=fun W hb'=>HP.out W hb'
     refine Zbi (C:=C) (R:= #[.int .i64 4, .int .i64 0]) Bp (hpc _ HBs.out).size (hpc _ HBs.out).one Bq rfl Br rfl rfl rfl hne (by rfl) (by go_simp) (by rfl) (by rfl) (by rfl) (by rfl) ?_
     intro W' _ _ hbw hq' hr';have hb':=hbw w.heap.size hge1 hge2 HBs.out;have hpw:=hpc _ hb';try simp only[Act.put,Yaa,Yab,Yac]
     go_wp2_with fail;refine bodyPost_ret (Zcq results22 (by rfl) (by rfl) hq' hpw.size hr' rfl) rfl ?_
     unfold Zdk;rw[HZ.out];exact⟨⟨_,rfl,hpw.plR⟩,hb'⟩
   · replace ho:(S.ses k).opn=false:=by cases h:(S.ses k).opn<;>simp_all
     rw[ho]at sx0 px0
     have HZ:Hid (z=((S.setSes k ⟨true,S.run,S.run⟩),0,0)):=by
      show z=_;rw[←hz.out];unfold Zfv;rw[Yan rfl,ho];rfl
     obtain⟨w6,hw6⟩: ∃ x,((ws.setCell ⟨w.heap.size,2+k*3,none⟩ (.bool true)).setCell ⟨w.heap.size,2+k*3+1,none⟩ (.slice A0 n0 c0)).setCell ⟨w.heap.size,2+k*3+2,none⟩ (.slice A0 n0 c0)=x:=⟨_,rfl⟩;have Dp:Bl w6 w.heap.size (((C.setIfInBounds (2+k*3) (.bool true)).setIfInBounds (2+k*3+1) (.slice A0 n0 c0)).setIfInBounds (2+k*3+2) (.slice A0 n0 c0)) 32:=by rw[←hw6];exact((Bp.set _ _).set _ _).set _ _
     have Dq:Bl w6 wo.heap.size #[.slice none 0 0, .slice none 0 0, .bool false, .slice none 0 0, .slice none 0 0, .bool false, .slice none 0 0, .slice none 0 0, .bool false, .slice none 0 0, .slice none 0 0, .int .i64 0, .int .i64 0, .int .i64 0, .slice none 0 0] 32:=by rw[←hw6];exact((Bq.other hn1 _).other hn1 _).other hn1 _
     have Dr:Bl w6 wq.heap.size #[.int .i64 0, .int .i64 0] 39:=by rw[←hw6];exact((Br.other hn2 _).other hn2 _).other hn2 _
     have HB6:Hid (Below w.heap.size w w6):=by show Below _ _ _;rw[←hw6];exact((HBs.out.setCell (p:=⟨_,_,none⟩) (Yag _) _).setCell (p:=⟨_,_,none⟩) (Yag _) _).setCell (p:=⟨_,_,none⟩) (Yag _) _
     go_upto_region 19 with fail
     have hpc: ∀ W,Below w.heap.size w W→PlC W (((C.setIfInBounds (2+k*3) (.bool true)).setIfInBounds (2+k*3+1) (.slice A0 n0 c0)).setIfInBounds (2+k*3+2) (.slice A0 n0 c0)) (S.setSes k ⟨true,S.run,S.run⟩):=fun W hb'=>(HP.out W hb').setSes k hk true _ _ S.run S.run (HR.out.below hb') (HR.out.below hb')
     refine Zbi (C:=(((C.setIfInBounds (2+k*3) (.bool true)).setIfInBounds (2+k*3+1) (.slice A0 n0 c0)).setIfInBounds (2+k*3+2) (.slice A0 n0 c0))) (R:= #[.int .i64 0, .int .i64 0]) Dp (hpc _ HB6.out).size (hpc _ HB6.out).one Dq rfl Dr rfl rfl rfl hne (by rfl) (by go_simp) (by rfl) (by rfl) (by rfl) (by rfl) ?_
     intro W' _ _ hbw hq' hr';have hb':=hbw w.heap.size hge1 hge2 HB6.out;have hpw:=hpc _ hb';try simp only[Act.put,Yaa,Yab,Yac]
     go_wp2_with fail;refine bodyPost_ret (Zcq results22 (by rfl) (by rfl) hq' hpw.size hr' rfl) rfl ?_
     unfold Zdk;rw[HZ.out];exact⟨⟨_,rfl,hpw.plR⟩,hb'⟩
 have hq1:(kind==1)=false:=by rw[Yai];exact k1
 by_cases k2:kind=2
 · subst k2;clear k1 hq1;obtain⟨w8,hw8⟩: ∃ x,((ws.setCell ⟨w.heap.size,2+k*3,none⟩ (.bool false)).setCell ⟨w.heap.size,2+k*3+1,none⟩ (.slice none 0 0)).setCell ⟨w.heap.size,2+k*3+2,none⟩ (.slice none 0 0)=x:=⟨_,rfl⟩;have Dp:Bl w8 w.heap.size (((C.setIfInBounds (2+k*3) (.bool false)).setIfInBounds (2+k*3+1) (.slice none 0 0)).setIfInBounds (2+k*3+2) (.slice none 0 0)) 32:=by rw[←hw8];exact((Bp.set _ _).set _ _).set _ _
   have Dq:Bl w8 wo.heap.size #[.slice none 0 0, .slice none 0 0, .bool false, .slice none 0 0, .slice none 0 0, .bool false, .slice none 0 0, .slice none 0 0, .bool false, .slice none 0 0, .slice none 0 0, .int .i64 0, .int .i64 0, .int .i64 0, .slice none 0 0] 32:=by rw[←hw8];exact((Bq.other hn1 _).other hn1 _).other hn1 _
   have Dr:Bl w8 wq.heap.size #[.int .i64 0, .int .i64 0] 39:=by rw[←hw8];exact((Br.other hn2 _).other hn2 _).other hn2 _
   have HB8:Hid (Below w.heap.size w w8):=by show Below _ _ _;rw[←hw8];exact((HBs.out.setCell (p:=⟨_,_,none⟩) (Yag _) _).setCell (p:=⟨_,_,none⟩) (Yag _) _).setCell (p:=⟨_,_,none⟩) (Yag _) _
   have HP8:=Zhd ((HP.out w8 HB8.out).setSes k hk false _ _ [] [] (Zcu _) (Zcu _));have lx:w8.cell? ⟨w.heap.size,11,none⟩=some (.int .i64 (S.setSes k ⟨false,[],[]⟩).lock):=(Dp.cell _).trans HP8.out.lock;rw[(Zbd S k _).2.2.1]at lx;have df: ∀ j,w8.frozen? ⟨w.heap.size,j,none⟩=false:=Dp.froz;by_cases ow:S.lock=(k:Int)+1
   · have hown:(S.lock==(k:Int)+1)=true:=by rw[beq_iff_eq];exact ow
     have HZ:Hid (z=({(S.setSes k ⟨false,[],[]⟩)with lock:=0},0,0)):=by
      show z=_;rw[←hz.out];unfold Zfv;rw[Yad (by decide),Yan rfl,Yan ow]
     clear ow;obtain⟨w10,hw10⟩: ∃ x,w8.setCell ⟨w.heap.size,11,none⟩ (.int .i64 0)=x:=⟨_,rfl⟩;have Fp:Bl w10 w.heap.size (((((C.setIfInBounds (2+k*3) (.bool false)).setIfInBounds (2+k*3+1) (.slice none 0 0)).setIfInBounds (2+k*3+2) (.slice none 0 0))).setIfInBounds 11 (.int .i64 0)) 32:=by rw[←hw10];exact Dp.set _ _
     have Fq:Bl w10 wo.heap.size #[.slice none 0 0, .slice none 0 0, .bool false, .slice none 0 0, .slice none 0 0, .bool false, .slice none 0 0, .slice none 0 0, .bool false, .slice none 0 0, .slice none 0 0, .int .i64 0, .int .i64 0, .int .i64 0, .slice none 0 0] 32:=by rw[←hw10];exact Dq.other hn1 _
     have Fr:Bl w10 wq.heap.size #[.int .i64 0, .int .i64 0] 39:=by rw[←hw10];exact Dr.other hn2 _
     have HB10:Hid (Below w.heap.size w w10):=by show Below _ _ _;rw[←hw10];exact HB8.out.setCell (p:=⟨_,_,none⟩) (Yag _) _
     go_upto_region 19 with fail
     have hpc: ∀ W,Below w.heap.size w W→PlC W ((((C.setIfInBounds (2+k*3) (.bool false)).setIfInBounds (2+k*3+1) (.slice none 0 0)).setIfInBounds (2+k*3+2) (.slice none 0 0)).setIfInBounds 11 (.int .i64 0)) {(S.setSes k ⟨false,[],[]⟩)with lock:=0}:=fun W hb'=>((HP.out W hb').setSes k hk false _ _ [] [] (Zcu _) (Zcu _)).setLock 0
     refine Zbi (C:=((((C.setIfInBounds (2+k*3) (.bool false)).setIfInBounds (2+k*3+1) (.slice none 0 0)).setIfInBounds (2+k*3+2) (.slice none 0 0)).setIfInBounds 11 (.int .i64 0))) (R:= #[.int .i64 0, .int .i64 0]) Fp (hpc _ HB10.out).size (hpc _ HB10.out).one Fq rfl Fr rfl rfl rfl hne (by rfl) (by go_simp) (by rfl) (by rfl) (by rfl) (by rfl) ?_
     intro W' _ _ hbw hq' hr';have hb':=hbw w.heap.size hge1 hge2 HB10.out;have hpw:=hpc _ hb';try simp only[Act.put,Yaa,Yab,Yac]
     go_wp2_with fail;refine bodyPost_ret (Zcq results22 (by rfl) (by rfl) hq' hpw.size hr' rfl) rfl ?_
     unfold Zdk;rw[HZ.out];exact⟨⟨_,rfl,hpw.plR⟩,hb'⟩
   · have hown:(S.lock==(k:Int)+1)=false:=by rw[Yai];exact ow
     have HZ:Hid (z=((S.setSes k ⟨false,[],[]⟩),0,0)):=by
      show z=_;rw[←hz.out];unfold Zfv;rw[Yad (by decide),Yan rfl,Yad ow];rcases HK3.out with e|e|e<;>subst e<;>rfl
     clear ow;go_upto_region 19 with fail
     have hpc: ∀ W,Below w.heap.size w W→PlC W (((C.setIfInBounds (2+k*3) (.bool false)).setIfInBounds (2+k*3+1) (.slice none 0 0)).setIfInBounds (2+k*3+2) (.slice none 0 0)) (S.setSes k ⟨false,[],[]⟩):=fun W hb'=>((HP.out W hb').setSes k hk false _ _ [] [] (Zcu _) (Zcu _))
     refine Zbi (C:=(((C.setIfInBounds (2+k*3) (.bool false)).setIfInBounds (2+k*3+1) (.slice none 0 0)).setIfInBounds (2+k*3+2) (.slice none 0 0))) (R:= #[.int .i64 0, .int .i64 0]) Dp (hpc _ HB8.out).size (hpc _ HB8.out).one Dq rfl Dr rfl rfl rfl hne (by rfl) (by go_simp) (by rfl) (by rfl) (by rfl) (by rfl) ?_
     intro W' _ _ hbw hq' hr';have hb':=hbw w.heap.size hge1 hge2 HB8.out;have hpw:=hpc _ hb';try simp only[Act.put,Yaa,Yab,Yac]
     go_wp2_with fail;refine bodyPost_ret (Zcq results22 (by rfl) (by rfl) hq' hpw.size hr' rfl) rfl ?_
     unfold Zdk;rw[HZ.out];exact⟨⟨_,rfl,hpw.plR⟩,hb'⟩
 have hq2:(kind==2)=false:=by rw[Yai];exact k2
 by_cases k3:kind=3
 · subst k3;clear k1 hq1 k2 hq2;by_cases l0:S.lock=0
   · have hl0:(S.lock==0)=true:=by rw[beq_iff_eq];exact l0
     have hl1:(S.lock !=0)=false:=by simp[l0]
     have HZ:Hid (z=({S with lock:=(k:Int)+1},0,0)):=by
      show z=_;rw[←hz.out];unfold Zfv;rw[Yad (by decide),Yad (by decide),Yan rfl,Yad (fun h=>h.1 l0)]
     clear l0;obtain⟨w14,hw14⟩: ∃ x,ws.setCell ⟨w.heap.size,11,none⟩ (.int .i64 ((k:Int)+1))=x:=⟨_,rfl⟩;have Dp:Bl w14 w.heap.size ((C).setIfInBounds 11 (.int .i64 ((k:Int)+1))) 32:=by rw[←hw14];exact Bp.set _ _
     have Dq:Bl w14 wo.heap.size #[.slice none 0 0, .slice none 0 0, .bool false, .slice none 0 0, .slice none 0 0, .bool false, .slice none 0 0, .slice none 0 0, .bool false, .slice none 0 0, .slice none 0 0, .int .i64 0, .int .i64 0, .int .i64 0, .slice none 0 0] 32:=by rw[←hw14];exact Bq.other hn1 _
     have Dr:Bl w14 wq.heap.size #[.int .i64 0, .int .i64 0] 39:=by rw[←hw14];exact Br.other hn2 _
     have HB14:Hid (Below w.heap.size w w14):=by show Below _ _ _;rw[←hw14];exact HBs.out.setCell (p:=⟨_,_,none⟩) (Yag _) _
     go_upto_region 19 with fail
     have hpc: ∀ W,Below w.heap.size w W→PlC W (C.setIfInBounds 11 (.int .i64 ((k:Int)+1))) {S with lock:=(k:Int)+1}:=fun W hb'=>(HP.out W hb').setLock ((k:Int)+1)
     refine Zbi (C:=(C.setIfInBounds 11 (.int .i64 ((k:Int)+1)))) (R:= #[.int .i64 0, .int .i64 0]) Dp (hpc _ HB14.out).size (hpc _ HB14.out).one Dq rfl Dr rfl rfl rfl hne (by rfl) (by go_simp) (by rfl) (by rfl) (by rfl) (by rfl) ?_
     intro W' _ _ hbw hq' hr';have hb':=hbw w.heap.size hge1 hge2 HB14.out;have hpw:=hpc _ hb';try simp only[Act.put,Yaa,Yab,Yac]
     go_wp2_with fail;refine bodyPost_ret (Zcq results22 (by rfl) (by rfl) hq' hpw.size hr' rfl) rfl ?_
     unfold Zdk;rw[HZ.out];exact⟨⟨_,rfl,hpw.plR⟩,hb'⟩
   have hl0:(S.lock==0)=false:=by rw[Yai];exact l0
   have hl1:(S.lock !=0)=true:=by simp[l0]
   by_cases ow:S.lock=(k:Int)+1
   · have hown:(S.lock==(k:Int)+1)=true:=by rw[beq_iff_eq];exact ow
     have HZ:Hid (z=({S with lock:=(k:Int)+1},0,0)):=by
      show z=_;rw[←hz.out];unfold Zfv;rw[Yad (by decide),Yad (by decide),Yan rfl,Yad (fun h=>h.2 ow)]
     clear ow l0;obtain⟨w14,hw14⟩: ∃ x,ws.setCell ⟨w.heap.size,11,none⟩ (.int .i64 ((k:Int)+1))=x:=⟨_,rfl⟩;have Dp:Bl w14 w.heap.size ((C).setIfInBounds 11 (.int .i64 ((k:Int)+1))) 32:=by rw[←hw14];exact Bp.set _ _
     have Dq:Bl w14 wo.heap.size #[.slice none 0 0, .slice none 0 0, .bool false, .slice none 0 0, .slice none 0 0, .bool false, .slice none 0 0, .slice none 0 0, .bool false, .slice none 0 0, .slice none 0 0, .int .i64 0, .int .i64 0, .int .i64 0, .slice none 0 0] 32:=by rw[←hw14];exact Bq.other hn1 _
     have Dr:Bl w14 wq.heap.size #[.int .i64 0, .int .i64 0] 39:=by rw[←hw14];exact Br.other hn2 _
     have HB14:Hid (Below w.heap.size w w14):=by show Below _ _ _;rw[←hw14];exact HBs.out.setCell (p:=⟨_,_,none⟩) (Yag _) _
     go_upto_region 19 with fail
     have hpc: ∀ W,Below w.heap.size w W→PlC W (C.setIfInBounds 11 (.int .i64 ((k:Int)+1))) {S with lock:=(k:Int)+1}:=fun W hb'=>(HP.out W hb').setLock ((k:Int)+1)
     refine Zbi (C:=(C.setIfInBounds 11 (.int .i64 ((k:Int)+1)))) (R:= #[.int .i64 0, .int .i64 0]) Dp (hpc _ HB14.out).size (hpc _ HB14.out).one Dq rfl Dr rfl rfl rfl hne (by rfl) (by go_simp) (by rfl) (by rfl) (by rfl) (by rfl) ?_
     intro W' _ _ hbw hq' hr';have hb':=hbw w.heap.size hge1 hge2 HB14.out;have hpw:=hpc _ hb';try simp only[Act.put,Yaa,Yab,Yac]
     go_wp2_with fail;refine bodyPost_ret (Zcq results22 (by rfl) (by rfl) hq' hpw.size hr' rfl) rfl ?_
     unfold Zdk;rw[HZ.out];exact⟨⟨_,rfl,hpw.plR⟩,hb'⟩
   · have hown:(S.lock==(k:Int)+1)=false:=by rw[Yai];exact ow
     have HZ:Hid (z=(S,9,0)):=by
      show z=_;rw[←hz.out];unfold Zfv;rw[Yad (by decide),Yad (by decide),Yan rfl,Yan ⟨l0,ow⟩]
     clear ow l0;go_upto_region 13 with fail
     have hpc: ∀ W,Below w.heap.size w W→PlC W C S:=fun W hb'=>HP.out W hb'
     refine Zbi (C:=C) (R:= #[.int .i64 9, .int .i64 0]) Bp (hpc _ HBs.out).size (hpc _ HBs.out).one Bq rfl Br rfl rfl rfl hne (by rfl) (by go_simp) (by rfl) (by rfl) (by rfl) (by rfl) ?_
     intro W' _ _ hbw hq' hr';have hb':=hbw w.heap.size hge1 hge2 HBs.out;have hpw:=hpc _ hb';try simp only[Act.put,Yaa,Yab,Yac]
     go_wp2_with fail;refine bodyPost_ret (Zcq results22 (by rfl) (by rfl) hq' hpw.size hr' rfl) rfl ?_
     unfold Zdk;rw[HZ.out];exact⟨⟨_,rfl,hpw.plR⟩,hb'⟩
 have hq3:(kind==3)=false:=by rw[Yai];exact k3
 by_cases k4:kind=4
 · subst k4;clear k1 hq1 k2 hq2 k3 hq3;by_cases ow:S.lock=(k:Int)+1
   · have hown:(S.lock==(k:Int)+1)=true:=by rw[beq_iff_eq];exact ow
     have HZ:Hid (z=({S with lock:=0},0,0)):=by
      show z=_;rw[←hz.out];unfold Zfv;rw[Yad (by decide),Yad (by decide),Yad (by decide),Yan rfl,Yad (fun h=>h ow)]
     clear ow;obtain⟨w18,hw18⟩: ∃ x,ws.setCell ⟨w.heap.size,11,none⟩ (.int .i64 0)=x:=⟨_,rfl⟩;have Dp:Bl w18 w.heap.size ((C).setIfInBounds 11 (.int .i64 0)) 32:=by rw[←hw18];exact Bp.set _ _
     have Dq:Bl w18 wo.heap.size #[.slice none 0 0, .slice none 0 0, .bool false, .slice none 0 0, .slice none 0 0, .bool false, .slice none 0 0, .slice none 0 0, .bool false, .slice none 0 0, .slice none 0 0, .int .i64 0, .int .i64 0, .int .i64 0, .slice none 0 0] 32:=by rw[←hw18];exact Bq.other hn1 _
     have Dr:Bl w18 wq.heap.size #[.int .i64 0, .int .i64 0] 39:=by rw[←hw18];exact Br.other hn2 _
     have HB18:Hid (Below w.heap.size w w18):=by show Below _ _ _;rw[←hw18];exact HBs.out.setCell (p:=⟨_,_,none⟩) (Yag _) _
     go_upto_region 19 with fail
     have hpc: ∀ W,Below w.heap.size w W→PlC W (C.setIfInBounds 11 (.int .i64 0)) {S with lock:=0}:=fun W hb'=>(HP.out W hb').setLock 0
     refine Zbi (C:=(C.setIfInBounds 11 (.int .i64 0))) (R:= #[.int .i64 0, .int .i64 0]) Dp (hpc _ HB18.out).size (hpc _ HB18.out).one Dq rfl Dr rfl rfl rfl hne (by rfl) (by go_simp) (by rfl) (by rfl) (by rfl) (by rfl) ?_
     intro W' _ _ hbw hq' hr';have hb':=hbw w.heap.size hge1 hge2 HB18.out;have hpw:=hpc _ hb';try simp only[Act.put,Yaa,Yab,Yac]
     go_wp2_with fail;refine bodyPost_ret (Zcq results22 (by rfl) (by rfl) hq' hpw.size hr' rfl) rfl ?_
     unfold Zdk;rw[HZ.out];exact⟨⟨_,rfl,hpw.plR⟩,hb'⟩
   · have hown:(S.lock==(k:Int)+1)=false:=by rw[Yai];exact ow
     have HZ:Hid (z=(S,3,0)):=by
      show z=_;rw[←hz.out];unfold Zfv;rw[Yad (by decide),Yad (by decide),Yad (by decide),Yan rfl,Yan ow]
     clear ow;go_upto_region 17 with fail
     have hpc: ∀ W,Below w.heap.size w W→PlC W C S:=fun W hb'=>HP.out W hb'
     refine Zbi (C:=C) (R:= #[.int .i64 3, .int .i64 0]) Bp (hpc _ HBs.out).size (hpc _ HBs.out).one Bq rfl Br rfl rfl rfl hne (by rfl) (by go_simp) (by rfl) (by rfl) (by rfl) (by rfl) ?_
     intro W' _ _ hbw hq' hr';have hb':=hbw w.heap.size hge1 hge2 HBs.out;have hpw:=hpc _ hb';try simp only[Act.put,Yaa,Yab,Yac]
     go_wp2_with fail;refine bodyPost_ret (Zcq results22 (by rfl) (by rfl) hq' hpw.size hr' rfl) rfl ?_
     unfold Zdk;rw[HZ.out];exact⟨⟨_,rfl,hpw.plR⟩,hb'⟩
 have hq4:(kind==4)=false:=by rw[Yai];exact k4
 have HZ:Hid (z=(S,0,0)):=by
  show z=_;rw[←hz.out];unfold Zfv;rw[Yad k1,Yad k2,Yad k3,Yad k4]
 clear k1 k2 k3 k4;go_upto_region 19 with fail
 have hpc: ∀ W,Below w.heap.size w W→PlC W C S:=fun W hb'=>HP.out W hb'
 refine Zbi (C:=C) (R:= #[.int .i64 0, .int .i64 0]) Bp (hpc _ HBs.out).size (hpc _ HBs.out).one Bq rfl Br rfl rfl rfl hne (by rfl) (by go_simp) (by rfl) (by rfl) (by rfl) (by rfl) ?_
 intro W' _ _ hbw hq' hr';have hb':=hbw w.heap.size hge1 hge2 HBs.out;have hpw:=hpc _ hb';try simp only[Act.put,Yaa,Yab,Yac]
 go_wp2_with fail;refine bodyPost_ret (Zcq results22 (by rfl) (by rfl) hq' hpw.size hr' rfl) rfl ?_
 unfold Zdk;rw[HZ.out];exact⟨⟨_,rfl,hpw.plR⟩,hb'⟩
end Go.Proofs.Zq
