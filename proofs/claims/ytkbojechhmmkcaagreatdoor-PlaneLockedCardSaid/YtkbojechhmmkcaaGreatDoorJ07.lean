import Derived.Deep.DeepCutAuto
import Derived.Deep.CutBlock
import Derived.StillTailTactics
import Derived.Test.YtkbojechhmmkcaaGreatDoorJ06
set_option linter.unusedVariables false
set_option linter.unusedSimpArgs false
set_option maxHeartbeats 4000000
set_option maxRecDepth 100000
namespace Prs
open Go Go.Lib Tre Lx
structure Nd where
 line:Line
 up:Int
def Nd.cells (n:Nd):List Value:=n.line.cells++ [.int .i64 n.up]
def Nd.agg (n:Nd):Value:= .agg #[.int .i64 n.line.depth, .string n.line.word, .int .i64 n.line.mark, .int .i64 n.up]
def nds (l:List Nd):List Value:=l.flatMap Nd.cells
theorem Zahj (l m:List Nd):nds (l++m)=nds l++nds m:=by unfold nds;simp
theorem Zavw (e:Nd):nds [e]=e.cells:=by unfold nds;simp
theorem Zaly (L:List Nd) (i j:Nat) (hi:i<L.length) (hj:j<4):(nds L)[i*4+j]?=(L[i].cells)[j]?:=by
 unfold nds
 induction L generalizing i with
 |nil=>simp at hi
 | cons e L ih=>
   have he:e.cells.length=4:=by simp[Nd.cells,Line.cells]
   cases i with
   |zero=>rw[Ybw,Yca (by rw[he];omega)];simp
   | succ i=>
     rw[Ybw,Ybi (by rw[he];omega),show(i+1)*4+j-e.cells.length=i*4+j by rw[he];omega]
     simpa using ih i (by simpa using hi)
structure Pst where
 l:List Tok
 nodes:List Nd
 opn:List Nat
def topB (o:List Nat):Int:=match o.getLast? with|some k=>(k:Int)|none=> -1
def Zca (en:Int) (l:List Tok):Int×Int:=match l with| []=>(0,en)|t::_=>(t.kind,t.at_)
theorem Zamb (en:Int): ∀ (l:List Tok) (h:0<l.length),Zca en l=(l[0].kind,l[0].at_)
 |_::_,_=>rfl
theorem Zarq (en:Int): ∀ (l:List Tok),¬ 0<l.length→Zca en l=(0,en)
 | [],_=>rfl
 |_::_,h=>absurd (by simp) h
def Zcf:Int→List Tok→Int×Bool×List Tok
 |b,[]=>(b,false,[])
 |b,t::r=>if t.kind=5 then(if bits .and .i64 b t.bit≠0 then(0,false,t::r)else Zcf (bits .or .i64 b t.bit) r)else(b,decide (t.kind=1),t::r)
def Zwx (nodes:List Nd) (up:Int) (s:ByteArray):Bool:=nodes.any fun n=>decide (n.up=up)&&decide (n.line.word=s)
def nameB (mark:Int) (p:Pst):Int×Pst:=
 match p.l with
 | []=>(0,p)
 | t::r=>
   if 16≤p.opn.length then(6,p)
   else if Zwx p.nodes (topB p.opn) t.word then(4,p)
   else if 200≤p.nodes.length then(5,p)
   else(0,⟨r,p.nodes++ [⟨⟨p.opn.length,t.word,mark⟩,topB p.opn⟩],p.opn⟩)
def Zvg (en:Int) (p:Pst):Int×Int×Pst:=
 if(Zca en p.l).1=2 then(0,0,⟨p.l.drop 1,p.nodes,p.opn++ [p.nodes.length-1]⟩)
 else if(Zca en p.l).1=4 then(0,0,⟨p.l.drop 1,p.nodes,p.opn⟩)
 else((Zca en p.l).2,2,p)
def Zpg (en:Int) (p:Pst):Int×Int×Pst:=
 let m:=Zcf 0 p.l
 let q:Pst:=⟨m.2.2,p.nodes,p.opn⟩
 if m.2.1=false then((Zca en q.l).2,2,q)
 else if(nameB m.1 q).1≠0 then((Zca en q.l).2,(nameB m.1 q).1,q)
 else Zvg en (nameB m.1 q).2
def stB (en:Int) (p:Pst):Int×Int×Pst:=
 if(Zca en p.l).1=3 then(if p.opn.length=0 then((Zca en p.l).2,2,p)else(0,0,⟨p.l.drop 1,p.nodes,p.opn.take (p.opn.length-1)⟩))
 else Zpg en p
end Prs
namespace Go.Proofs.Zq
open Tryz
open Go Go.RowKit Go.Sort Tre Lx Prs
def RdB (B:Nat) (w:World) (k:Nat) (A:Option Addr) (n:Nat) (xs:List Value):Prop:=
 xs.length=n*k∧(0<n→ ∃ ad,A=some ad∧ad.block<B∧ ∀ j u,xs[j]?=some u→w.cell? (ad.add j)=some u)
theorem RdB.below {B:Nat} {w w':World} {k n:Nat} {A:Option Addr} {xs:List Value} (h:RdB B w k A n xs) (hb:Below B w w'):RdB B w' k A n xs:=
 ⟨h.1,fun hn=>by
  obtain⟨ad,e,hl,hx⟩:=h.2 hn;exact⟨ad,e,hl,fun j u hu=>(hb.cell (by rw[Zge];exact hl)).trans (hx j u hu)⟩⟩
theorem RdB.of {w:World} {k n:Nat} {A:Option Addr} {xs:List Value} (h:Rd w k A n xs):RdB w.heap.size w k A n xs:=h
theorem Znp {w:World} {g k:Nat} {cs:Array Value} {T:TypeId} {f:Nat×Nat} (h:w.heap[g]?=some (.cells cs T f)) (v:Value):(w.setCell ⟨g,k,none⟩ v).heap[g]?=some (.cells (cs.set! k v) T f):=by
 simp[World.setCell,Array.getElem?_modify,h]
theorem Zke {w:World} {base g k:Nat} {e T:TypeId} {sz n:Nat} {v:Value} {xs:List Value} {cs:Array Value} {f:Nat×Nat} (h:w.ownsRow base e sz v n xs) (hg:w.heap[g]?=some (.cells cs T f)) (hT:T≠e) (u:Value):(w.setCell ⟨g,k,none⟩ u).ownsRow base e sz v n xs:=
 ⟨h.1,h.2.imp id fun⟨q,cap,cur,h1,h2,h3,h4⟩=>⟨q,cap,cur,h1,h2,by
  rw[Below.heap_setCell]
  · exact h3
  · intro e';change q=g at e';rw[e',hg]at h3;injection h3 with h3
    injection h3 with _ h5
    exact hT h5,h4⟩⟩
theorem Zahk {w:World} {base:Nat} {e:TypeId} {sz n:Nat} {A:Option Addr} {c:Nat} {xs:List Value} (h:w.ownsRow base e sz (.slice A n c) n xs) {m:Nat} (hm:m≤n) (h0:0<n):w.ownsRow base e sz (.slice A m c) m (xs.take (m*sz)):=by
 refine⟨?_, ?_⟩
 · rw[Yaf,h.1];exact Ybb (Yet _ hm)
 · rcases h.2 with⟨-,h2⟩|⟨g,cap,cur,h1,h2,h3,h4,h5,h6,h7⟩
   · omega
   · injection h1 with e1 e2 e3
     subst e1;subst e3;refine .inr ⟨g,c,cur,rfl,h2,h3,by omega,h5,h6, ?_⟩
     rw[←h7,Yct];congr 1;exact(Ybb (Yet _ hm)).symm
def Psr (B g:Nat) (en:Int) (p:Pst) (Al:Option Addr) (cl:Nat) (vn vo:Value) (W:World):Prop:=
 W.heap[g]?=some (.cells #[.slice Al p.l.length cl, .int .i64 en,vn,vo] 127 (0,0))∧B≤g∧p.l.length≤cl∧cl≤maxLen∧RdB B W 4 Al p.l.length (toks p.l)∧
 W.ownsRow B 169 4 vn p.nodes.length (nds p.nodes)∧W.ownsRow B 3 1 vo p.opn.length (iv p.opn)
def Zxe (B g:Nat) (en:Int) (p:Pst) (W:World):Prop:= ∃ Al cl vn vo,Psr B g en p Al cl vn vo W
section
variable {B g:Nat} {en:Int} {p:Pst} {Al:Option Addr} {cl:Nat} {vn vo:Value} {W:World}
theorem Psr.lt (h:Psr B g en p Al cl vn vo W):g<W.heap.size:=(Ybc.1 h.1).1
theorem Psr.cells (h:Psr B g en p Al cl vn vo W):W.cell? ⟨g,0,none⟩=some (.slice Al p.l.length cl)∧W.cell? ⟨g,1,none⟩=some (.int .i64 en)∧W.cell? ⟨g,2,none⟩=some vn∧W.cell? ⟨g,3,none⟩=some vo:=by
 refine⟨?_, ?_, ?_, ?_⟩<;>(rw[cell_of_row W g _ _ _ (0,0) h.1];rfl)
theorem Psr.frozen (h:Psr B g en p Al cl vn vo W) (o:Nat):W.frozen? ⟨g,o,none⟩=false:=Lib.frozen_of_heap h.1 o
theorem Psr.slices (h:Psr B g en p Al cl vn vo W):(∃ A c,vn= .slice A p.nodes.length c)∧(∃ A c,vo= .slice A p.opn.length c):=by
 obtain⟨-,-,-,-,-,h1,h2⟩:=h;obtain⟨A,c,e,-⟩:=Zbe h1;obtain⟨A2,c2,e2,-⟩:=Zbe h2;exact⟨⟨A,c,e⟩,A2,c2,e2⟩
theorem Psr.below {W':World} (h:Psr B g en p Al cl vn vo W) (hb:Below W.heap.size W W') (hB:B≤W.heap.size):Psr B g en p Al cl vn vo W':=by
 have hg:=h.lt;obtain⟨h1,h2,h3,h4,h5,h6,h7⟩:=h;exact⟨(hb.block g hg).trans h1,h2,h3,h4,h5.below (hb.mono hB),Zah h6 hb,Zah h7 hb⟩
theorem Psr.setL (h:Psr B g en p Al cl vn vo W) {l:List Tok} {A:Option Addr} {c:Nat} (h1:l.length≤c) (h2:c≤maxLen) (h3:RdB B W 4 A l.length (toks l)):Psr B g en ⟨l,p.nodes,p.opn⟩ A c vn vo (W.setCell ⟨g,0,none⟩ (.slice A l.length c)):=by
 obtain⟨k1,k2,k3,k4,k5,k6,k7⟩:=h;exact⟨Znp k1 _,k2,h1,h2,h3.below ((Yae _ _).setCell (p:=⟨g,0,none⟩) k2 _),Zke k6 k1 (by decide) _,Zke k7 k1 (by decide) _⟩
theorem Psr.setO (h:Psr B g en p Al cl vn vo W) {o:List Nat} {v:Value} (h1:W.ownsRow B 3 1 v o.length (iv o)):Psr B g en ⟨p.l,p.nodes,o⟩ Al cl vn v (W.setCell ⟨g,3,none⟩ v):=by
 obtain⟨k1,k2,k3,k4,k5,k6,k7⟩:=h;exact⟨Znp k1 _,k2,k3,k4,k5.below ((Yae _ _).setCell (p:=⟨g,3,none⟩) k2 _),Zke k6 k1 (by decide) _,Zke h1 k1 (by decide) _⟩
theorem Psr.tok (h:Psr B g en p Al cl vn vo W) (h0:0<p.l.length): ∃ b o,Al=some ⟨b,o,none⟩∧b<B∧ ∀ i (hi:i<p.l.length),W.cell? ⟨b,o+i*4,none⟩=some (.int .i64 p.l[i].kind)∧W.cell? ⟨b,o+i*4+1,none⟩=some (.int .i64 p.l[i].at_)∧W.cell? ⟨b,o+i*4+2,none⟩=some (.string p.l[i].word)∧W.cell? ⟨b,o+i*4+3,none⟩=some (.int .i64 p.l[i].bit):=by
 obtain⟨-,-,-,-,h5,-,-⟩:=h;obtain⟨ad,e,hb,hx⟩:=h5.2 h0
 have c: ∀ i (hi:i<p.l.length) j (_:j<4),W.cell? (ad.add (i*4+j))=(p.l[i].cells)[j]?:=fun i hi j hj=>by
  have e2:=Zatd p.l i j hi hj;have: ∃ u,(p.l[i].cells)[j]?=some u:=⟨_,Yaj (by simp[Tok.cells];omega)⟩
  obtain⟨u,hu⟩:=this;rw[hu];exact hx _ u (by rw[e2];exact hu)
 have hsp:ad.spot=none:=by
  have h1:W.cell? (ad.add (0*4+0))=some (.int .i64 p.l[0].kind):=c 0 h0 0 (by omega)
  have h2:=World.cell?_spot h1;have h3:ad.add (0*4+0)=ad:=by simp[Addr.add]
  rwa [h3]at h2
 obtain⟨b,o,sp⟩:=ad;simp only at hsp hb;subst hsp;refine⟨b,o,e,hb,fun i hi=> ?_⟩
 have c':=fun j hj=>c i hi j hj
 simp only[Zag]at c';exact⟨by have:=c' 0 (by omega);simpa[Tok.cells]using this,by have:=c' 1 (by omega);simpa[Tok.cells,Nat.add_assoc]using this,by have:=c' 2 (by omega);simpa[Tok.cells,Nat.add_assoc]using this,by have:=c' 3 (by omega);simpa[Tok.cells,Nat.add_assoc]using this⟩
end
theorem Zpw (B g:Nat) (en:Int) (p:Pst) (Al:Option Addr) (cl:Nat) (vn vo:Value) (W:World) (h:Psr B g en p Al cl vn vo W):
 Calls prog 114 #[.pointer (some ⟨g,0,none⟩)] W fun e w'=>e= .returned (.tuple #[.int .i64 (Zca en p.l).1, .int .i64 (Zca en p.l).2])∧ ∃ n,w'=W.drewN n:=by
 obtain⟨c0,c1,-,-⟩:=h.cells;by_cases h0:0<p.l.length
 · obtain⟨b,o,rfl,-,hx⟩:=h.tok h0;obtain⟨x0,x1,-,-⟩:=hx 0 h0;have hX:Hid (Zca en p.l=(p.l[0].kind,p.l[0].at_)):=Zamb en p.l h0;have hn:((p.l.length:Int)==0)=false:=by rw[Yai];omega
   have hi0:(0:Int)<(p.l.length:Int):=by omega
   simp only[Nat.zero_mul,Yef]at x0 x1;clear hx;generalize p.l[0]=t at *;go_enter func114,ntmps114;go_wp2_with fail;go_quiet (fail);go_wp2;go_ret2;exact⟨by rw[hX.out];rfl,_,rfl⟩
 · have hX:Hid (Zca en p.l=(0,en)):=Zarq en p.l h0;have hl0:p.l.length=0:=by omega
   rw[hl0]at c0;clear h h0 hl0;go_enter func114,ntmps114;go_wp2_with fail;go_quiet (fail);go_wp2;go_ret2;exact⟨by rw[hX.out];rfl,_,rfl⟩
theorem Psr.lastO {B g:Nat} {en:Int} {p:Pst} {Al:Option Addr} {cl:Nat} {vn vo:Value} {W:World} (h:Psr B g en p Al cl vn vo W) (h0:0<p.opn.length): ∃ b c,vo= .slice (some ⟨b,0,none⟩) p.opn.length c∧p.opn.length≤c∧c≤maxLen∧W.cell? ⟨b,p.opn.length-1,none⟩=some (.int .i64 (topB p.opn)):=by
 obtain⟨-,-,-,-,-,-,h7⟩:=h;rcases h7.2 with⟨-,h2⟩|⟨q,cap,cur,h1,h2,h3,h4,h5,h6,h7'⟩
 · omega
 · refine⟨q,cap,h1,h4,h5, ?_⟩;subst h1;have hq:p.opn.length-1<p.opn.length:=by omega
   have:=h7.cells (g:=q) rfl (p.opn.length-1) _ (Zady hq);rw[Zag,Ybj]at this;rw[this];unfold topB;rw[Ydr,Yaj hq]
theorem Zatg {o:List Nat} (h: ¬ 0<o.length):topB o= -1:=by
 cases o with
 |nil=>rfl
 |cons a l=>exact absurd (by simp) h
theorem Zawt (B g:Nat) (en:Int) (p:Pst) (Al:Option Addr) (cl:Nat) (vn vo:Value) (W:World) (h:Psr B g en p Al cl vn vo W):
 Calls prog 149 #[.pointer (some ⟨g,0,none⟩)] W fun e w'=>e= .returned (.int .i64 (topB p.opn))∧ ∃ n,w'=W.drewN n:=by
 obtain⟨-,-,-,c3⟩:=h.cells;by_cases h0:0<p.opn.length
 · obtain⟨b,c,rfl,hc1,hc2,hx⟩:=h.lastO h0;have hn:((p.opn.length:Int)==0)=false:=by rw[Yai];omega
   have hi0:(0:Int)≤(p.opn.length:Int)-1:=by omega
   have hi1:(p.opn.length:Int)-1<(p.opn.length:Int):=by omega
   unfold maxLen at hc2;have hi2:(p.opn.length:Int)≤9223372036854775807:=by omega
   clear h;generalize topB p.opn=z at *;go_enter func149,ntmps149;go_wp2_with fail;go_quiet (fail);go_wp2;go_ret;exact⟨rfl,_,rfl⟩
 · have hX:=Zhd (Zatg h0);obtain⟨-,A,c,rfl⟩:=h.slices;have hl0:p.opn.length=0:=by omega
   rw[hl0]at c3;clear h h0 hl0;go_enter func149,ntmps149;go_wp2;go_ret;exact⟨by rw[hX.out];rfl,0,rfl⟩
theorem Psr.pop {B g:Nat} {en:Int} {p:Pst} {Al:Option Addr} {cl:Nat} {vn vo:Value} {W:World} (h:Psr B g en p Al cl vn vo W) {t:Tok} {r:List Tok} (hl:p.l=t::r):
 ∃ b o,Al=some ⟨b,o,none⟩∧1≤cl∧r.length+1≤cl∧
   (cl=1→r= []∧Psr B g en ⟨[],p.nodes,p.opn⟩ (some ⟨b,o,none⟩) 0 vn vo (W.setCell ⟨g,0,none⟩ (.slice (some ⟨b,o,none⟩) 0 0)))∧
   (cl≠1→Psr B g en ⟨r,p.nodes,p.opn⟩ (some ⟨b,o+4,none⟩) (cl-1) vn vo (W.setCell ⟨g,0,none⟩ (.slice (some ⟨b,o+4,none⟩) r.length (cl-1)))):=by
 have hlen:p.l.length=r.length+1:=by rw[hl];rfl
 obtain⟨b,o,rfl,hb,hx⟩:=h.tok (by omega)
 have hk:=h;obtain⟨k1,k2,k3,k4,k5,k6,k7⟩:=h;refine⟨b,o,rfl,by omega,by omega,fun h1=>⟨Yar (by omega),hk.setL (l:= []) (Yag _) (by unfold maxLen;omega) ⟨rfl,fun h0=>absurd h0 (by simp)⟩⟩,fun h1=>hk.setL (by omega) (by omega) ⟨Zacn _,fun h0=> ?_⟩⟩
 obtain⟨ad,e,hb2,hx2⟩:=k5.2 (by omega)
 injection e with e
 subst e;refine⟨_,rfl,hb,fun j u hu=> ?_⟩
 have:=hx2 (4+j) u (by
  rw[hl,show t::r= [t]++r from rfl,Zst,Zafe,Ybi (by simp[Tok.cells])]
  simpa[Tok.cells]using hu)
 rw[Zag]at this⊢;rw[Ydh];exact this
theorem Psr.head {B g:Nat} {en:Int} {p:Pst} {Al:Option Addr} {cl:Nat} {vn vo:Value} {W:World} (h:Psr B g en p Al cl vn vo W) {t:Tok} {r:List Tok} (hl:p.l=t::r):
 ∃ b o,Al=some ⟨b,o,none⟩∧b<B∧W.cell? ⟨b,o,none⟩=some (.int .i64 t.kind)∧W.cell? ⟨b,o+1,none⟩=some (.int .i64 t.at_)∧W.cell? ⟨b,o+2,none⟩=some (.string t.word)∧W.cell? ⟨b,o+3,none⟩=some (.int .i64 t.bit):=by
 have h0:0<p.l.length:=by rw[hl];simp
 obtain⟨b,o,e,hb,hx⟩:=h.tok h0;obtain⟨x0,x1,x2,x3⟩:=hx 0 h0;have e0:p.l[0]=t:=by simp[hl]
 rw[e0]at x0 x1 x2 x3;exact⟨b,o,e,hb,by simpa using x0,by simpa using x1,by simpa using x2,by simpa using x3⟩
def Zalm (g:Nat) (W:World):Nat:=match W.cell? ⟨g,0,none⟩with|some (.slice _ n _)=>n|_=>0
theorem Psr.len {B g:Nat} {en:Int} {p:Pst} {Al:Option Addr} {cl:Nat} {vn vo:Value} {W:World} (h:Psr B g en p Al cl vn vo W):Zalm g W=p.l.length:=by
 unfold Zalm;rw[h.cells.1]
theorem Psr.drewN {B g:Nat} {en:Int} {p:Pst} {Al:Option Addr} {cl:Nat} {vn vo:Value} {W:World} (h:Psr B g en p Al cl vn vo W) (n:Nat):Psr B g en p Al cl vn vo (W.drewN n):=h
theorem Zan {B:Nat} {w w':World} (h:Below B w w') (n:Nat):Below B w (w'.drewN n):=⟨h.os,h.tape,h.output,h.size,h.block⟩
theorem Zkr {B g:Nat} {en:Int} {p:Pst} {Al:Option Addr} {cl:Nat} {vn vo:Value} {W w:World} (h:Below B w W) (hp:Psr B g en p Al cl vn vo W) (v:Value):Below B w (W.setCell ⟨g,0,none⟩ v):=h.setCell (p:=⟨g,0,none⟩) hp.2.1 v
def Zum (B g:Nat) (en:Int) (p:Pst) (vn vo:Value) (W:World) (e:Ending) (w':World):Prop:=
 e= .returned (.tuple #[.int .i64 (Zcf 0 p.l).1, .bool (Zcf 0 p.l).2.1])∧(∃ Al cl,Psr B g en ⟨(Zcf 0 p.l).2.2,p.nodes,p.opn⟩ Al cl vn vo w')∧Below B W w'
theorem Zabl (b:Int) {t:Tok} {r:List Tok} (h:t.kind≠5):Zcf b (t::r)=(b,decide (t.kind=1),t::r):=by
 unfold Zcf;rw[Yad h]
theorem Zabm (b:Int) {t:Tok} {r:List Tok} (h:t.kind=5) (h2:bits .and .i64 b t.bit≠0):Zcf b (t::r)=(0,false,t::r):=by
 unfold Zcf;rw[Yan h,Yan h2]
theorem Zahe (b:Int) {t:Tok} {r:List Tok} (h:t.kind=5) (h2:bits .and .i64 b t.bit=0):Zcf b (t::r)=Zcf (bits .or .i64 b t.bit) r:=by
 conv=>lhs;unfold Zcf
 rw[Yan h,Yad (fun h=>h h2)]
theorem Zalt (B g:Nat) (en:Int) (p:Pst) (Al:Option Addr) (cl:Nat) (vn vo:Value) (W:World) (h:Psr B g en p Al cl vn vo W):
 Calls prog 115 #[.pointer (some ⟨g,0,none⟩)] W (Zum B g en p vn vo W):=by
 have HP:=Zhd h;clear h;unfold Zum;obtain⟨R,hR⟩: ∃ R,Zcf 0 p.l=R:=⟨_,rfl⟩;rw[hR];have HR:=Zhd hR;clear hR;go_enter func115,ntmps115;go_wp2;go_loopw [4] (fun v wr=> ∃ (b:Int) (l:List Tok) (A:Option Addr) (c:Nat),v= .int .i64 b∧Hid (Psr B g en ⟨l,p.nodes,p.opn⟩ A c vn vo wr)∧Hid (Zcf b l=R)∧Hid (Below B W wr)) (fun _ wr=>Zalm g wr)
 case atStart=>exact⟨0,p.l,Al,cl,rfl,HP,HR,Yae _ _⟩
 case round=>
  clear HP HR;obtain⟨b,l,A,c,rfl,HP,HR,HB⟩:=hrel;obtain⟨c0,-,-,-⟩:=HP.out.cells;have HL:=Zhd HP.out.len;cases l with
  | nil=>
    have HK:Hid (R=(b,false,[])):=by show _=_;rw[←HR.out];rfl
    have c0:wr.cell? ⟨g,0,none⟩=some (.slice A 0 c):=c0;clear HR HL;go_wp2_with fail;go_quiet (fail);go_wp2;go_ret2;refine⟨by rw[HK.out];rfl,⟨A,c, ?_⟩,Zan HB.out _⟩
    rw[HK.out];exact HP.out.drewN _
  | cons t r=>
    obtain⟨b2,o,rfl,hbB,x0,-,-,x3⟩:=HP.out.head rfl;have c0:wr.cell? ⟨g,0,none⟩=some (.slice (some ⟨b2,o,none⟩) (r.length+1) c):=c0;obtain⟨b3,o3,e3,hc1,hrc,HP1,HP2⟩:=HP.out.pop rfl;obtain⟨rfl,rfl⟩:b2=b3∧o=o3:=by cases e3;exact⟨rfl,rfl⟩
    have hf0:=HP.out.frozen 0;have hpos:(0:Int)<((r.length+1:Nat):Int):=by omega
    have hpos2:(0:Int)<(r.length:Int)+1:=by omega
    have hb2:=Zkr HB.out HP.out;by_cases hk:t.kind=5
    · have q1:(t.kind==5)=true:=beq_iff_eq.2 hk;by_cases ha:bits .and .i64 b t.bit=0
      · have q2:(bits .and .i64 b t.bit !=0)=false:=by rw[ha];rfl
        have HR2:Hid (Zcf (bits .or .i64 b t.bit) r=R):=by show _=_;rw[←HR.out,Zahe b hk ha]
        clear HR hk ha;by_cases h1:c=1
        · obtain⟨hr,hp3⟩:=HP1 h1;subst hr;have HP3:=Zhd hp3;have HB3:=Zhd (hb2 (.slice (some ⟨b2,o,none⟩) 0 0));have HL3:=Zhd HP3.out.len;have c0:wr.cell? ⟨g,0,none⟩=some (.slice (some ⟨b2,o,none⟩) 1 c):=c0;subst h1;clear HP1 HP2 hb2 hp3 hpos hpos2;go_wp2;go_roundw
          case rel=>exact⟨_,[],_,_,rfl,HP3,HR2,HB3⟩
          case measure=>rw[HL3.out,HL.out];simp
        · have HP3:=Zhd (HP2 h1);have HB3:=Zhd (hb2 (.slice (some ⟨b2,o+4,none⟩) r.length (c-1)));have HL3:=Zhd HP3.out.len;have h1': ¬ (1=c):=fun e=>h1 e.symm
          have hci:(1:Int)≤(c:Int):=by omega
          have hcs:(c:Int)-1=((c-1:Nat):Int):=by omega
          clear HP1 HP2 hb2;go_wp2;go_roundw
          case rel=>exact⟨_,r,_,_,rfl,HP3,HR2,HB3⟩
          case measure=>rw[HL3.out,HL.out];simp
      · have q2:(bits .and .i64 b t.bit !=0)=true:=by rw[bne_iff_ne];exact ha
        have HK:Hid (R=(0,false,t::r)):=by show _=_;rw[←HR.out,Zabm b hk ha]
        clear HR HP1 HP2 hb2 hk ha;go_wp2;go_ret2;refine⟨by rw[HK.out];rfl,⟨some ⟨b2,o,none⟩,c, ?_⟩,HB.out⟩
        rw[HK.out];exact HP.out
    · have q1:(t.kind==5)=false:=Yai.2 hk
      have HK:Hid (R=(b,(t.kind==1),t::r)):=by
       show _=_;rw[←HR.out,Zabl b hk];congr 1
      clear HR HP1 HP2 hb2 hk;go_wp2_with fail;go_quiet (fail);go_wp2;go_ret2;refine⟨by rw[HK.out];rfl,⟨some ⟨b2,o,none⟩,c, ?_⟩,Zan HB.out _⟩
      rw[HK.out];exact HP.out.drewN _
end Go.Proofs.Zq
namespace Prs
open Go Go.Lib Tre Lx
def Zbl {α:Type} (f:α→Bool):Nat→List α→Int
 |_,[]=> -1
 |k,r::l=>if f r then(k:Int)else Zbl f (k+1) l
theorem Zadq {α:Type} {f:α→Bool} {L:List α} {k:Nat} (h:k<L.length):Zbl f k (L.drop k)=if f L[k]then(k:Int)else Zbl f (k+1) (L.drop (k+1)):=by
 rw[Yay h];rfl
theorem Zaba {α:Type} (f:α→Bool): ∀ (l:List α) (k:Nat),decide (0≤Zbl f k l)=l.any f
 | [],_=>rfl
 | r::l,k=>by
   unfold Zbl;rw[List.any_cons];cases h:f r with
   |true=>rw[Yan rfl,Yal (by omega)];rfl
   |false=>rw[Yad (by simp),Zaba f l (k+1)];rfl
def Zaih (u:Int) (s:ByteArray) (n:Nd):Bool:=decide (n.up=u)&&decide (n.line.word=s)
theorem bts_same {a b:ByteArray} (h:a.toList=b.toList):a=b:=ByteArray.ext (Ydz.1 (by rwa [Lib.toList_data,Lib.toList_data]at h))
end Prs
namespace Go.Proofs.Zq
open Tryz
open Go Go.RowKit Go.Sort Tre Lx Prs
theorem Zalw (n:Nd) (pu pw:Nat) (u:Int) (s:ByteArray) (w:World) (hu:w.cell? ⟨pu,0,none⟩=some (.int .i64 u)) (hs:w.cell? ⟨pw,0,none⟩=some (.string s)):
 Calls prog 151 #[n.agg, .pointer (some ⟨pu,0,none⟩), .pointer (some ⟨pw,0,none⟩)] w fun e w'=>e= .returned (.bool (Zaih u s n))∧Below w.heap.size w w':=by
 have hul:=Lib.lt_of_cell hu;have hsl:=Lib.lt_of_cell hs;simp only at hul hsl;obtain⟨⟨nd,nw,nm⟩,nu⟩:=n;unfold Nd.agg Zaih;simp only;have hb:=Zhd ((Yae w.heap.size w).alloc (Yag _) (.cells #[.int .i64 nd, .string nw, .int .i64 nm, .int .i64 nu] 169));by_cases h1:nu=u
 · have q1:(nu==u)=true:=beq_iff_eq.2 h1;by_cases h2:nw=s
   · have q2:(nw.toList==s.toList)=true:=by rw[h2];exact beq_self_eq_true _
     have HX:Hid ((decide (nu=u)&&decide (nw=s))=true):=by show _=_;rw[Yal h1,Yal h2];rfl
     clear h1 h2;go_enter func151,ntmps151;go_wp2;go_ret;exact⟨by rw[HX.out];rfl,hb.out⟩
   · have q2:(nw.toList==s.toList)=false:=by rw[Yai];exact fun e=>h2 (Prs.bts_same e)
     have HX:Hid ((decide (nu=u)&&decide (nw=s))=false):=by show _=_;rw[Yah h2,Bool.and_false]
     clear h1 h2;go_enter func151,ntmps151;go_wp2;go_ret;exact⟨by rw[HX.out];rfl,hb.out⟩
 · have q1:(nu==u)=false:=Yai.2 h1;have HX:Hid ((decide (nu=u)&&decide (nw=s))=false):=by show _=_;rw[Yah h1,Bool.false_and]
   clear h1;go_enter func151,ntmps151;go_wp2;go_ret;exact⟨by rw[HX.out];rfl,hb.out⟩
theorem Rd.nd {w:World} {A:Option Addr} {L:List Nd} (h:Rd w 4 A L.length (nds L)) {i:Nat} (hi:i<L.length):
 ∃ b o,A=some ⟨b,o,none⟩∧b<w.heap.size∧(⟨b,o,none⟩:Addr).add (i*4)=⟨b,o+i*4,none⟩∧w.cell? ⟨b,o+i*4,none⟩=some (.int .i64 L[i].line.depth)∧w.cell? ⟨b,o+i*4+1,none⟩=some (.string L[i].line.word)∧
   w.cell? ⟨b,o+i*4+2,none⟩=some (.int .i64 L[i].line.mark)∧w.cell? ⟨b,o+i*4+3,none⟩=some (.int .i64 L[i].up):=by
 obtain⟨ad,e,hb,hx⟩:=h.2 (by omega)
 have g:=fun j (hj:j<4)=>Zaly L i j hi hj
 have h0:=hx (i*4) _ (by have:=g 0 (by omega);simpa[Nd.cells,Line.cells]using this)
 have h1:=hx (i*4+1) _ (by have:=g 1 (by omega);simpa[Nd.cells,Line.cells]using this)
 have h2:=hx (i*4+2) _ (by have:=g 2 (by omega);simpa[Nd.cells,Line.cells]using this)
 have h3:=hx (i*4+3) _ (by have:=g 3 (by omega);simpa[Nd.cells,Line.cells]using this)
 have hs:ad.spot=none:=by
  have h00:=hx 0 _ (by have:=Zaly L 0 0 (by omega) (by omega);simpa[Nd.cells,Line.cells]using this)
  have h2:=World.cell?_spot h00;have h3:ad.add 0=ad:=by simp[Addr.add]
  rwa [h3]at h2
 obtain⟨b,o,sp⟩:=ad;obtain rfl:sp=none:=hs;rw[Zag]at h0 h1 h2 h3;exact⟨b,o,e,hb,Zag _ _ _,h0,h1,h2,h3⟩
theorem Zagx (A:Option Addr) (c:Nat) (L:List Nd) (pu pw:Nat) (u:Int) (s:ByteArray) (w:World) (hR:Rd w 4 A L.length (nds L)) (hL:L.length≤1000000) (hu:w.cell? ⟨pu,0,none⟩=some (.int .i64 u)) (hs:w.cell? ⟨pw,0,none⟩=some (.string s)):
 Calls prog 184 #[.slice A L.length c, .func (.func 151) #[] #[.pointer (some ⟨pu,0,none⟩), .pointer (some ⟨pw,0,none⟩)]] w fun e w'=>e= .returned (.int .i64 (Zbl (Zaih u s) 0 L))∧Below w.heap.size w w':=by
 have hul:=Lib.lt_of_cell hu;have hsl:=Lib.lt_of_cell hs;simp only at hul hsl;have HF:=Zhd (fun W (hb:Below w.heap.size w W) (n:Nd)=>Zalw n pu pw u s W ((hb.cell (p:=⟨pu,0,none⟩) hul).trans hu) ((hb.cell (p:=⟨pw,0,none⟩) hsl).trans hs))
 have HR:=Zhd hR;obtain⟨f,hf⟩: ∃ f,Zaih u s=f:=⟨_,rfl⟩;rw[hf]at HF⊢;have HQ0:Hid (Zbl f 0 L=Zbl f 0 (L.drop 0)):=rfl;clear hR hu hs hul hsl hf;go_enter func184,ntmps184;go_wp2;go_loopw [8] (fun vi wr=> ∃ k:Nat,k≤L.length∧vi= .int .i64 k∧Hid (Zbl f 0 L=Zbl f k (L.drop k))∧Hid (Below w.heap.size w wr)) (fun vi _=>L.length-(intOf vi).toNat)
 case atStart=>exact⟨0,Yao _,rfl,HQ0,Yae _ _⟩
 case round=>
  clear HQ0;obtain⟨k,hk,rfl,HQ,HB⟩:=hrel;by_cases hlt:k<L.length
  · obtain⟨b,o,rfl,hab,hadd,x0,x1,x2,x3⟩:=(HR.out.below HB.out).nd hlt;have HC:=Zhd (HF.out wr HB.out L[k]);have hst:Hid (Zbl f 0 L=if f L[k]then(k:Int)else Zbl f (k+1) (L.drop (k+1))):=HQ.out.trans (Zadq hlt)
    generalize L[k]=r at *;unfold Nd.agg at HC;clear HQ;cases hf:f r with
    | true=>
      rw[hf]at hst HC;have HK:Hid (Zbl f 0 L=(k:Int)):=by show _=_;rw[hst.out];rfl
      clear hst hf;go_wp2_with fail;refine HC.out.mono ?_;rintro e w2 ⟨rfl,hb2⟩;have HB2:=Zhd (Zaa HB.out hb2);clear HC HB hb2 x0 x1 x2 x3;go_wp2;go_ret;exact⟨Zci HK.out.symm,HB2.out⟩
    | false=>
      rw[hf]at hst HC;have HK:Hid (Zbl f 0 L=Zbl f (k+1) (L.drop (k+1))):=by show _=_;rw[hst.out];rfl
      clear hst hf;go_wp2_with fail;refine HC.out.mono ?_;rintro e w2 ⟨rfl,hb2⟩;have HB2:=Zhd (Zaa HB.out hb2);clear HC HB hb2 x0 x1 x2 x3;go_wp2_with fail;go_roundw
      case rel=>exact⟨k+1,by omega,by go_num,HK,HB2⟩
      case measure=>simp[intOf];omega
  · have hke:k=L.length:=by omega
    have HK:Hid (Zbl f 0 L= -1):=by
     show _=_;rw[HQ.out,Ybe (by omega)];rfl
    clear HQ;go_wp2;go_ret;exact⟨Zci HK.out.symm,HB.out⟩
theorem Zuz (A:Option Addr) (c:Nat) (L:List Nd) (pu pw:Nat) (u:Int) (s:ByteArray) (w:World) (hR:Rd w 4 A L.length (nds L)) (hL:L.length≤1000000) (hu:w.cell? ⟨pu,0,none⟩=some (.int .i64 u)) (hs:w.cell? ⟨pw,0,none⟩=some (.string s)):
 Calls prog 150 #[.slice A L.length c, .func (.func 151) #[] #[.pointer (some ⟨pu,0,none⟩), .pointer (some ⟨pw,0,none⟩)]] w fun e w'=>e= .returned (.bool (Zwx L u s))∧Below w.heap.size w w':=by
 have HI:=Zhd (Zagx A c L pu pw u s w hR hL hu hs);have HX:Hid (decide (0≤Zbl (Zaih u s) 0 L)=Zwx L u s):=Zaba _ _ _;clear hR hu hs;generalize Zbl (Zaih u s) 0 L=z at *;go_enter func150,ntmps150;go_wp2_with fail;refine HI.out.mono ?_;rintro e w2 ⟨rfl,hb2⟩;go_wp2;go_ret;exact⟨by rw[←HX.out];rfl,hb2⟩
theorem Zqj (w:World) (n:Nat) (o:Obj):(w.drewN n).alloc o=(w.alloc o).drewN n:=rfl
theorem Zno (w:World) (n:Nat) (a:Addr) (v:Value):(w.drewN n).setCell a v=(w.setCell a v).drewN n:=rfl
attribute [local go_sem] Zqj Zno
theorem Zil (W:World) (T1 T2:TypeId) (a b:Value) (n:Nat):
 Hid ((((W.alloc (.cells #[a] T1)).alloc (.cells #[b] T2)).drewN n).heap[W.heap.size]?=some (.cells #[a] T1 (0,0)))∧Hid ((((W.alloc (.cells #[a] T1)).alloc (.cells #[b] T2)).drewN n).heap[W.heap.size+1]?=some (.cells #[b] T2 (0,0)))∧
 Hid (Below W.heap.size W (((W.alloc (.cells #[a] T1)).alloc (.cells #[b] T2)).drewN n)):=by
 refine⟨?_, ?_,Zan (((Yae _ _).alloc (Yag _) _).alloc (by simp) _) n⟩
 · show((W.alloc (.cells #[a] T1)).alloc (.cells #[b] T2)).heap[W.heap.size]?=_;rw[Below.heap_alloc _ _ _ (by simp)]
   exact heap_alloc_new W _
 · have:=heap_alloc_new (W.alloc (.cells #[a] T1)) (.cells #[b] T2)
   rwa [show(W.alloc (.cells #[a] T1)).heap.size=W.heap.size+1 by simp]at this
theorem Zck {w:World} {B:Nat} {e:TypeId} {k n:Nat} {v:Value} {xs:List Value} (h:w.ownsRow B e k v (n+1) xs): ∃ q c,v= .slice (some ⟨q,0,none⟩) (n+1) c:=by
 rcases h.2 with⟨-,h0⟩|⟨q,c,_,h1,-⟩
 · omega
 · exact⟨q,c,h1⟩
theorem Zasj {B g:Nat} {en:Int} {p:Pst} {Al:Option Addr} {cl:Nat} {vn vo:Value} {W w7:World} {n:Nd} {v:Value} (h:Psr B g en p Al cl vn vo W) (hown:w7.ownsRow B 169 4 v (p.nodes.length+1) (nds p.nodes++n.cells)) (hb:Below B W w7) (hk:Zbn 169 W w7):
 Psr B g en ⟨p.l,p.nodes++ [n],p.opn⟩ Al cl v vo (w7.setCell ⟨g,2,none⟩ v):=by
 obtain⟨k1,k2,k3,k4,k5,k6,k7⟩:=h
 have ho:w7.ownsRow B 169 4 v (p.nodes++ [n]).length (nds (p.nodes++ [n])):=by
  rw[Zahj,Zavw,Yak];exact hown
 have hg:=hk g _ _ (by decide) k1
 exact⟨Znp hg _,k2,k3,k4,(k5.below hb).below ((Yae _ _).setCell (p:=⟨g,2,none⟩) k2 _),Zke ho hg (by decide) _,Zke (hk.own (by decide) k7) hg (by decide) _⟩
theorem Zoy {B:Nat} {w:World} (h:B≤w.heap.size) (o:Obj):Below B w (w.alloc o):=(Yae _ _).alloc h o
theorem Zajg {w:World} {g:Nat} {T:TypeId} {v:Value} (h:w.heap[g]?=some (.cells #[v] T (0,0))):w.cell? ⟨g,0,none⟩=some v:=by
 rw[cell_of_row w g 0 _ _ (0,0) h];rfl
theorem Zym {e:TypeId} {a V b:World} (h:Zbn e V b) (hb:Below a.heap.size a V):Zbn e a b:=(Zbn.of hb).trans h
theorem Zalx (mark:Int) {p:Pst} {t:Tok} {r:List Tok} (hl:p.l=t::r):nameB mark p=if 16≤p.opn.length then(6,p)
 else if Zwx p.nodes (topB p.opn) t.word=true then(4,p)
 else if 200≤p.nodes.length then(5,p)
 else(0,⟨r,p.nodes++ [⟨⟨p.opn.length,t.word,mark⟩,topB p.opn⟩],p.opn⟩):=by
 unfold nameB;rw[hl]
theorem Zaky:(prog.info? 169).map (fun i=>(i.zero,i.size,i.bytes))=some (some (.agg #[.int .i64 0, .string ⟨#[]⟩, .int .i64 0, .int .i64 0]),4,40):=by kernel_rfl
theorem Zarn (e:Nd): ∀ u∈e.cells,u.oneCell'=true:=by
 intro u hu;simp only[Nd.cells,Line.cells,Ybl,Yax,Yby,or_false]at hu;rcases hu with(rfl|rfl|rfl)|rfl<;>rfl
theorem Zang (w:World) (T:TypeId) (x:Nd):Rd (w.alloc (.cells #[.int .i64 x.line.depth, .string x.line.word, .int .i64 x.line.mark, .int .i64 x.up] T)) 4 (some ⟨w.heap.size,0,none⟩) 1 x.cells:=by
 refine⟨rfl,fun _=>⟨_,rfl,by simp,fun j u hu=> ?_⟩⟩
 rw[Zag,Ybj,World.cell?_alloc_at _ _ _ _ rfl];have:x.cells= [.int .i64 x.line.depth, .string x.line.word, .int .i64 x.line.mark, .int .i64 x.up]:=rfl;rw[this]at hu;simpa using hu
def Zzx (B g:Nat) (en mark:Int) (p:Pst) (vo:Value) (W:World) (e:Ending) (w':World):Prop:=
 e= .returned (.int .i64 (nameB mark p).1)∧(∃ Al cl vn,Psr B g en (nameB mark p).2 Al cl vn vo w')∧Below B W w'
theorem Zamu (B g:Nat) (en mark:Int) (p:Pst) (Al:Option Addr) (cl:Nat) (vn vo:Value) (W:World) (h:Psr B g en p Al cl vn vo W) (hBW:B≤W.heap.size) (t:Tok) (r:List Tok) (hl:p.l=t::r) (hn:p.nodes.length≤200):
 Calls prog 116 #[.pointer (some ⟨g,0,none⟩), .int .i64 mark] W (Zzx B g en mark p vo W):=by
 have HP:=Zhd h;have HT:=Zhd (fun W' (hb:Below W.heap.size W W')=>Zawt B g en p Al cl vn vo W' (h.below hb hBW))
 obtain⟨c0,-,-,-⟩:=h.cells;obtain⟨b,o,rfl,hbB,-,-,x2,-⟩:=h.head hl;have hpos:(0:Int)<(p.l.length:Int):=by rw[hl];simp
 have hgl:=h.lt;have hbl:b<W.heap.size:=by omega
 have HC0:=Zhd (fun W' (hb:Below W.heap.size W W')=>(hb.cell (p:=⟨g,0,none⟩) hgl).trans c0)
 have HC2:=Zhd (fun W' (hb:Below W.heap.size W W')=>(hb.cell (p:=⟨b,o+2,none⟩) hbl).trans x2)
 clear h;unfold Zzx;go_enter func116,ntmps116;go_upto_region 1 with fail
 go_cut [5,6] (fun v5 v6 wx=> ∃ pw pu:Nat,v5= .pointer (some ⟨pw,0,none⟩)∧v6= .pointer (some ⟨pu,0,none⟩)∧Hid (wx.heap[pw]?=some (.cells #[.string t.word] 9 (0,0)))∧Hid (wx.heap[pu]?=some (.cells #[.int .i64 (topB p.opn)] 3 (0,0)))∧Hid (Below W.heap.size W wx))
 case first=>
  go_region_held3 (fun w'=>w'.cell? ⟨g,0,none⟩=some (.slice (some ⟨b,o,none⟩) p.l.length cl)∧w'.cell? ⟨b,o+2,none⟩=some (.string t.word)) (go_keep) ((go_at_call 149;refine(HT.out _ ?hbt).mono ?_;(case hbt=>repeat (first|exact Yae _ _|refine Below.drew ?_|refine Zan ?_ _|refine Below.alloc ?_ (by simp) _));rintro e w5 ⟨rfl,nq,rfl⟩))
  all_goals go_wp2_with fail
  all_goals go_meet
  all_goals first|exact⟨W.heap.size,W.heap.size+1,rfl,rfl,(Zil _ _ _ _ _ _).1,(Zil _ _ _ _ _ _).2.1,(Zil _ _ _ _ _ _).2.2⟩|exact⟨W.heap.size+1,W.heap.size,rfl,rfl,(Zil _ _ _ _ _ _).2.1,(Zil _ _ _ _ _ _).1,(Zil _ _ _ _ _ _).2.2⟩
 case rest =>
  obtain⟨pw,pu,rfl,rfl,HW,HU,HB⟩:=hcut;have hw:=Zajg HW.out;have hu:=Zajg HU.out;have hp:=HP.out.below HB.out hBW;clear HT HC0 HC2 HP c0 x2 hgl hbl;obtain⟨⟨An,cn,rfl⟩,Ao,co,rfl⟩:=hp.slices;obtain⟨c0,-,c2,c3⟩:=hp.cells;have HPc:=Zhd hp;have HX:=Zhd (Zalx mark hl);clear hp;by_cases h16:16≤p.opn.length
  · have HK:Hid (nameB mark p=(6,p)):=by show _=_;rw[HX.out,Yan h16]
    have g1:(16:Int)≤(p.opn.length:Int):=by omega
    clear HX h16;go_wp2;go_ret;rw[HK.out];exact⟨rfl,⟨_,_,_,HPc.out⟩,HB.out.mono hBW⟩
  · have g1: ¬ (16:Int)≤(p.opn.length:Int):=by omega
    have HRn:=Zhd (Rd.of_own HPc.out.2.2.2.2.2.1);have HC:=Zhd (Zuz An cn p.nodes pu pw (topB p.opn) t.word wc HRn.out (by omega) hu hw)
    have hBc:B≤wc.heap.size:=Yas hBW HB.out.size;have hwl:=Lib.lt_of_cell hw;have hul:=Lib.lt_of_cell hu;simp only at hwl hul;have H16:=Zhd h16;clear h16 HRn;cases htw:Zwx p.nodes (topB p.opn) t.word with
    | true=>
      have HK:Hid (nameB mark p=(4,p)):=by show _=_;rw[HX.out,Yad H16.out,Yan htw]
      rw[htw]at HC;clear HX htw;go_wp2_with fail;refine HC.out.mono ?_;rintro e w6 ⟨rfl,hb6⟩;have HP6:=Zhd (HPc.out.below hb6 hBc);have HB6:=Zhd ((Zaa HB.out hb6).mono hBW);clear hb6 c0 c2 c3 hw hu;go_wp2;go_ret;rw[HK.out];exact⟨rfl,⟨_,_,_,HP6.out⟩,HB6.out⟩
    | false=>
      have HTw:=Zhd htw;rw[htw]at HC;clear htw;go_wp2_with fail;refine HC.out.mono ?_;rintro e w6 ⟨rfl,hb6⟩;have hp6:=HPc.out.below hb6 hBc;have HB6:=Zhd ((Zaa HB.out hb6).mono hBW);have hw6:=(hb6.cell (p:=⟨pw,0,none⟩) hwl).trans hw;have hu6:=(hb6.cell (p:=⟨pu,0,none⟩) hul).trans hu;have hB6:B≤w6.heap.size:=Yas hBc hb6.size;have HW6:=Zhd ((hb6.block pw hwl).trans HW.out);have HU6:=Zhd ((hb6.block pu hul).trans HU.out);clear hb6 c0 c2 c3 hw hu HPc HC HB hwl hul hBc HW HU;obtain⟨c0,-,c2,c3⟩:=hp6.cells;have f2:=hp6.frozen 2;have HP6:=Zhd hp6;clear hp6;by_cases h200:200≤p.nodes.length
      · have HK:Hid (nameB mark p=(5,p)):=by show _=_;rw[HX.out,Yad H16.out,Yad (by rw[HTw.out];simp),Yan h200]
        have g2:(200:Int)≤(p.nodes.length:Int):=by omega
        clear HX h200;go_wp2;go_ret;rw[HK.out];exact⟨rfl,⟨_,_,_,HP6.out⟩,HB6.out⟩
      · have HK:Hid (nameB mark p=(0,⟨r,p.nodes++ [⟨⟨p.opn.length,t.word,mark⟩,topB p.opn⟩],p.opn⟩)):=by show _=_;rw[HX.out,Yad H16.out,Yad (by rw[HTw.out];simp),Yad h200]
        have g2: ¬ (200:Int)≤(p.nodes.length:Int):=by omega
        clear HX h200;obtain⟨i0,hi,hz0,hz1,hz2⟩:=info_parts Zaky;have hon:=HP6.out.2.2.2.2.2.1;have HON:=Zhd hon;have hnl:p.nodes.length+1≤1000000000:=by omega
        clear hon;have hgl6:=HP6.out.lt
        have hne1: ¬ pw=g:=fun e=>by
         have h1:=HW6.out;rw[e,HP6.out.1]at h1;injection h1 with h1
         injection h1 with _ h2
         exact absurd h2 (by decide)
        have hne2: ¬ pu=g:=fun e=>by
         have h1:=HU6.out;rw[e,HP6.out.1]at h1;injection h1 with h1
         injection h1 with _ h2
         exact absurd h2 (by decide)
        have hne3: ¬ g=pw:=fun e=>hne1 e.symm
        have hne4: ¬ g=pu:=fun e=>hne2 e.symm
        go_upto_region 8 with fail
        go_cut [] (fun wx=>Hid (∃ v,Psr B g en ⟨p.l,p.nodes++ [⟨⟨p.opn.length,t.word,mark⟩,topB p.opn⟩],p.opn⟩ (some ⟨b,o,none⟩) cl v (.slice Ao p.opn.length co) wx)∧Hid (Below B W wx))
        case first=>
         go_region_law ((refine Zko rfl _ _ 124 rfl B _ 169 i0 _ 4 40 underlying124 hi hz0 hz1 hz2 rfl (by decide) (by decide) ((Zah HON.out (Zan (Yae _ _) _)).alloc _) (by simp;omega) (by rfl) (some ⟨w6.heap.size,0,none⟩) 1 1 (Nd.cells ⟨⟨p.opn.length,t.word,mark⟩,topB p.opn⟩) rfl (Zang _ _ _) (fun h=>by cases h) (Zarn _) hnl ?_;intro v7 w7 hown7 hb7 hk7;obtain⟨q7,cc7,rfl⟩:=Zck hown7;have HB7:Hid (Below B w6 w7):=Below.trans (by repeat (first|exact Yae _ _|refine Below.drew ?_|refine Zan ?_ _|exact Zoy hB6 _)) hb7;have K7:Hid (Zbn 169 w6 w7):=Zym hk7 (by repeat (first|exact Yae _ _|refine Below.drew ?_|refine Zan ?_ _|refine Below.alloc ?_ (by simp) _));have HG7:=Zhd (K7.out g _ _ (by decide) HP6.out.1);have f7:=Lib.frozen_of_heap HG7.out 2;have c27:w7.cell? ⟨g,2,none⟩=some (.slice An p.nodes.length cn):=(cell_of_row w7 g 2 _ _ (0,0) HG7.out).trans rfl))
         all_goals go_wp2_with fail
         all_goals go_meet
         all_goals exact⟨⟨_,Zasj HP6.out hown7 HB7.out K7.out⟩,(HB6.out.trans HB7.out).setCell (p:=⟨g,2,none⟩) HP6.out.2.1 _⟩
        case rest=>
         obtain⟨HN,HBw⟩:=hcut;obtain⟨vn2,hN⟩:=HN.out;obtain⟨c0o,-,-,-⟩:=hN.cells;have f0':=hN.frozen 0;obtain⟨b3,o3,e3,hc1,hrc,HP1,HP2⟩:=hN.pop hl;obtain⟨rfl,rfl⟩:b=b3∧o=o3:=by cases e3;exact⟨rfl,rfl⟩
         have hb2:=Zkr HBw.out hN;have hlen:p.l.length=r.length+1:=by rw[hl];rfl
         have c0n:wc.cell? ⟨g,0,none⟩=some (.slice (some ⟨b,o,none⟩) (r.length+1) cl):=by rw[←hlen];exact c0o
         clear c0o hN HN HON HP6 c0 c2 c3 hw6 hu6 hl hlen;by_cases h1:cl=1
         · obtain⟨hr,hp3⟩:=HP1 h1;subst hr;have HP3:=Zhd hp3;have HB3:=Zhd (hb2 (.slice (some ⟨b,o,none⟩) 0 0));have c0e:wc.cell? ⟨g,0,none⟩=some (.slice (some ⟨b,o,none⟩) 1 cl):=c0n;clear c0n;subst h1;clear HP1 HP2 hb2 hp3;go_wp2;go_ret;rw[HK.out];exact⟨rfl,⟨_,_,_,HP3.out⟩,HB3.out⟩
         · have HP3:=Zhd (HP2 h1);have HB3:=Zhd (hb2 (.slice (some ⟨b,o+4,none⟩) r.length (cl-1)));have h1': ¬ (1=cl):=fun e=>h1 e.symm
           have hci:(1:Int)≤(cl:Int):=by omega
           have hcs:(cl:Int)-1=((cl-1:Nat):Int):=by omega
           have hpos2:(0:Int)<(r.length:Int)+1:=by omega
           clear HP1 HP2 hb2;go_wp2;go_ret;rw[HK.out];exact⟨rfl,⟨_,_,_,HP3.out⟩,HB3.out⟩
end Go.Proofs.Zq
