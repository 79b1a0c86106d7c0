import Derived.Test.YtkbojechhmmkcaaGreatDoorK06
set_option linter.unusedVariables false
set_option linter.unusedSimpArgs false
set_option maxHeartbeats 2000000
set_option maxRecDepth 100000
namespace Prs
open Go Go.Lib Tre Lx
structure Nd where
 line:Line
 up:Int
def Nd.cells (n:Nd):List Value:=n.line.cells++ [.int .i64 n.up]
def Nd.agg (n:Nd):Value:= .agg #[.int .i64 n.line.depth, .string n.line.word, .int .i64 n.line.mark, .int .i64 n.up]
def nds (l:List Nd):List Value:=l.flatMap Nd.cells
theorem Zaky (l m:List Nd):nds (l++m)=nds l++nds m:=by unfold nds;simp
theorem Zbcv (e:Nd):nds [e]=e.cells:=by unfold nds;simp
theorem Zaqb (L:List Nd) (i j:Nat) (hi:i<L.length) (hj:j<4):(nds L)[i*4+j]?=(L[i].cells)[j]?:=by
 unfold nds
 induction L generalizing i with
 |nil=>simp at hi
 | cons e L ih=>
   have he:e.cells.length=4:=by simp[Nd.cells,Line.cells]
   cases i with
   |zero=>rw[Ybl,Ych (by rw[he];omega)];simp
   | succ i=>
     rw[Ybl,Ybm (by rw[he];omega),show(i+1)*4+j-e.cells.length=i*4+j by rw[he];omega]
     simpa using ih i (by simpa using hi)
structure Pst where
 l:List Tok
 nodes:List Nd
 opn:List Nat
def topB (o:List Nat):Int:=match o.getLast? with|some k=>(k:Int)|none=> -1
def Zci (en:Int) (l:List Tok):Int×Int:=match l with| []=>(0,en)|t::_=>(t.kind,t.at_)
theorem Zaqe (en:Int): ∀ (l:List Tok) (h:0<l.length),Zci en l=(l[0].kind,l[0].at_)
 |_::_,_=>rfl
theorem Zaya (en:Int): ∀ (l:List Tok),¬ 0<l.length→Zci en l=(0,en)
 | [],_=>rfl
 |_::_,h=>absurd (by simp) h
def Zbs:Int→List Tok→Int×Bool×List Tok
 |b,[]=>(b,false,[])
 |b,t::r=>if t.kind=5 then(if bits .and .i64 b t.bit≠0 then(0,false,t::r)else Zbs (bits .or .i64 b t.bit) r)else(b,decide (t.kind=1),t::r)
def Zvb (nodes:List Nd) (up:Int) (s:ByteArray):Bool:=nodes.any fun n=>decide (n.up=up)&&decide (n.line.word=s)
def nameB (mark:Int) (p:Pst):Int×Pst:=
 match p.l with
 | []=>(0,p)
 | t::r=>
   if 16≤p.opn.length then(6,p)
   else if Zvb p.nodes (topB p.opn) t.word then(4,p)
   else if 200≤p.nodes.length then(5,p)
   else(0,⟨r,p.nodes++ [⟨⟨p.opn.length,t.word,mark⟩,topB p.opn⟩],p.opn⟩)
def Zrn (en:Int) (p:Pst):Int×Int×Pst:=
 if(Zci en p.l).1=2 then(0,0,⟨p.l.drop 1,p.nodes,p.opn++ [p.nodes.length-1]⟩)
 else if(Zci en p.l).1=4 then(0,0,⟨p.l.drop 1,p.nodes,p.opn⟩)
 else((Zci en p.l).2,2,p)
def Zrh (en:Int) (p:Pst):Int×Int×Pst:=
 let m:=Zbs 0 p.l
 let q:Pst:=⟨m.2.2,p.nodes,p.opn⟩
 if m.2.1=false then((Zci en q.l).2,2,q)
 else if(nameB m.1 q).1≠0 then((Zci en q.l).2,(nameB m.1 q).1,q)
 else Zrn en (nameB m.1 q).2
def stB (en:Int) (p:Pst):Int×Int×Pst:=
 if(Zci en p.l).1=3 then(if p.opn.length=0 then((Zci en p.l).2,2,p)else(0,0,⟨p.l.drop 1,p.nodes,p.opn.take (p.opn.length-1)⟩))
 else Zrh en p
end Prs
namespace Go.Proofs.Zq
open Tryz
open Go Go.RowKit Go.Sort Tre Lx Prs
def RdB (B:Nat) (w:World) (k:Nat) (A:Option Addr) (n:Nat) (xs:List Value):Prop:=
 xs.length=n*k∧(0<n→ ∃ ad,A=some ad∧ad.block<B∧ ∀ j u,xs[j]?=some u→w.cell? (ad.add j)=some u)
theorem RdB.below {B:Nat} {w w':World} {k n:Nat} {A:Option Addr} {xs:List Value} (h:RdB B w k A n xs) (hb:Below B w w'):RdB B w' k A n xs:=
 ⟨h.1,fun hn=>by
  obtain⟨ad,e,hl,hx⟩:=h.2 hn;exact⟨ad,e,hl,fun j u hu=>(hb.cell (by rw[Zhc];exact hl)).trans (hx j u hu)⟩⟩
theorem RdB.of {w:World} {k n:Nat} {A:Option Addr} {xs:List Value} (h:Rd w k A n xs):RdB w.heap.size w k A n xs:=h
theorem Zpm {w:World} {g k:Nat} {cs:Array Value} {T:TypeId} {f:Nat×Nat} (h:w.heap[g]?=some (.cells cs T f)) (v:Value):(w.setCell ⟨g,k,none⟩ v).heap[g]?=some (.cells (cs.set! k v) T f):=by
 simp[World.setCell,Array.getElem?_modify,h]
theorem Zlv {w:World} {base g k:Nat} {e T:TypeId} {sz n:Nat} {v:Value} {xs:List Value} {cs:Array Value} {f:Nat×Nat} (h:w.ownsRow base e sz v n xs) (hg:w.heap[g]?=some (.cells cs T f)) (hT:T≠e) (u:Value):(w.setCell ⟨g,k,none⟩ u).ownsRow base e sz v n xs:=
 ⟨h.1,h.2.imp id fun⟨q,cap,cur,h1,h2,h3,h4⟩=>⟨q,cap,cur,h1,h2,by
  rw[Below.heap_setCell]
  · exact h3
  · intro e';change q=g at e';rw[e',hg]at h3;injection h3 with h3
    injection h3 with _ h5
    exact hT h5,h4⟩⟩
theorem Zakz {w:World} {base:Nat} {e:TypeId} {sz n:Nat} {A:Option Addr} {c:Nat} {xs:List Value} (h:w.ownsRow base e sz (.slice A n c) n xs) {m:Nat} (hm:m≤n) (h0:0<n):w.ownsRow base e sz (.slice A m c) m (xs.take (m*sz)):=by
 refine⟨?_, ?_⟩
 · rw[Yah,h.1];exact Yba (Yfd _ hm)
 · rcases h.2 with⟨-,h2⟩|⟨g,cap,cur,h1,h2,h3,h4,h5,h6,h7⟩
   · omega
   · injection h1 with e1 e2 e3
     subst e1;subst e3;refine .inr ⟨g,c,cur,rfl,h2,h3,by omega,h5,h6, ?_⟩
     rw[←h7,Ycl];congr 1;exact(Yba (Yfd _ hm)).symm
def Psr (B g:Nat) (en:Int) (p:Pst) (Al:Option Addr) (cl:Nat) (vn vo:Value) (W:World):Prop:=
 W.heap[g]?=some (.cells #[.slice Al p.l.length cl, .int .i64 en,vn,vo] 127 (0,0))∧B≤g∧p.l.length≤cl∧cl≤maxLen∧RdB B W 4 Al p.l.length (toks p.l)∧
 W.ownsRow B 169 4 vn p.nodes.length (nds p.nodes)∧W.ownsRow B 3 1 vo p.opn.length (iv p.opn)
def Zzw (B g:Nat) (en:Int) (p:Pst) (W:World):Prop:= ∃ Al cl vn vo,Psr B g en p Al cl vn vo W
section
variable {B g:Nat} {en:Int} {p:Pst} {Al:Option Addr} {cl:Nat} {vn vo:Value} {W:World}
theorem Psr.lt (h:Psr B g en p Al cl vn vo W):g<W.heap.size:=(Ybf.1 h.1).1
theorem Psr.cells (h:Psr B g en p Al cl vn vo W):W.cell? ⟨g,0,none⟩=some (.slice Al p.l.length cl)∧W.cell? ⟨g,1,none⟩=some (.int .i64 en)∧W.cell? ⟨g,2,none⟩=some vn∧W.cell? ⟨g,3,none⟩=some vo:=by
 refine⟨?_, ?_, ?_, ?_⟩<;>(rw[cell_of_row W g _ _ _ (0,0) h.1];rfl)
theorem Psr.frozen (h:Psr B g en p Al cl vn vo W) (o:Nat):W.frozen? ⟨g,o,none⟩=false:=Lib.frozen_of_heap h.1 o
theorem Psr.slices (h:Psr B g en p Al cl vn vo W):(∃ A c,vn= .slice A p.nodes.length c)∧(∃ A c,vo= .slice A p.opn.length c):=by
 obtain⟨-,-,-,-,-,h1,h2⟩:=h;obtain⟨A,c,e,-⟩:=Zbj h1;obtain⟨A2,c2,e2,-⟩:=Zbj h2;exact⟨⟨A,c,e⟩,A2,c2,e2⟩
theorem Psr.below {W':World} (h:Psr B g en p Al cl vn vo W) (hb:Below W.heap.size W W') (hB:B≤W.heap.size):Psr B g en p Al cl vn vo W':=by
 have hg:=h.lt;obtain⟨h1,h2,h3,h4,h5,h6,h7⟩:=h;exact⟨(hb.block g hg).trans h1,h2,h3,h4,h5.below (hb.mono hB),Zai h6 hb,Zai h7 hb⟩
theorem Psr.setL (h:Psr B g en p Al cl vn vo W) {l:List Tok} {A:Option Addr} {c:Nat} (h1:l.length≤c) (h2:c≤maxLen) (h3:RdB B W 4 A l.length (toks l)):Psr B g en ⟨l,p.nodes,p.opn⟩ A c vn vo (W.setCell ⟨g,0,none⟩ (.slice A l.length c)):=by
 obtain⟨k1,k2,k3,k4,k5,k6,k7⟩:=h;exact⟨Zpm k1 _,k2,h1,h2,h3.below ((Yag _ _).setCell (p:=⟨g,0,none⟩) k2 _),Zlv k6 k1 (by decide) _,Zlv k7 k1 (by decide) _⟩
theorem Psr.setO (h:Psr B g en p Al cl vn vo W) {o:List Nat} {v:Value} (h1:W.ownsRow B 3 1 v o.length (iv o)):Psr B g en ⟨p.l,p.nodes,o⟩ Al cl vn v (W.setCell ⟨g,3,none⟩ v):=by
 obtain⟨k1,k2,k3,k4,k5,k6,k7⟩:=h;exact⟨Zpm k1 _,k2,k3,k4,k5.below ((Yag _ _).setCell (p:=⟨g,3,none⟩) k2 _),Zlv k6 k1 (by decide) _,Zlv h1 k1 (by decide) _⟩
theorem Psr.tok (h:Psr B g en p Al cl vn vo W) (h0:0<p.l.length): ∃ b o,Al=some ⟨b,o,none⟩∧b<B∧ ∀ i (hi:i<p.l.length),W.cell? ⟨b,o+i*4,none⟩=some (.int .i64 p.l[i].kind)∧W.cell? ⟨b,o+i*4+1,none⟩=some (.int .i64 p.l[i].at_)∧W.cell? ⟨b,o+i*4+2,none⟩=some (.string p.l[i].word)∧W.cell? ⟨b,o+i*4+3,none⟩=some (.int .i64 p.l[i].bit):=by
 obtain⟨-,-,-,-,h5,-,-⟩:=h;obtain⟨ad,e,hb,hx⟩:=h5.2 h0
 have c: ∀ i (hi:i<p.l.length) j (_:j<4),W.cell? (ad.add (i*4+j))=(p.l[i].cells)[j]?:=fun i hi j hj=>by
  have e2:=Zazo p.l i j hi hj;have: ∃ u,(p.l[i].cells)[j]?=some u:=⟨_,Yaj (by simp[Tok.cells];omega)⟩
  obtain⟨u,hu⟩:=this;rw[hu];exact hx _ u (by rw[e2];exact hu)
 have hsp:ad.spot=none:=by
  have h1:W.cell? (ad.add (0*4+0))=some (.int .i64 p.l[0].kind):=c 0 h0 0 (by omega)
  have h2:=World.cell?_spot h1;have h3:ad.add (0*4+0)=ad:=by simp[Addr.add]
  rwa [h3]at h2
 obtain⟨b,o,sp⟩:=ad;simp only at hsp hb;subst hsp;refine⟨b,o,e,hb,fun i hi=> ?_⟩
 have c':=fun j hj=>c i hi j hj
 simp only[Zag]at c';exact⟨by have:=c' 0 (by omega);simpa[Tok.cells]using this,by have:=c' 1 (by omega);simpa[Tok.cells,Nat.add_assoc]using this,by have:=c' 2 (by omega);simpa[Tok.cells,Nat.add_assoc]using this,by have:=c' 3 (by omega);simpa[Tok.cells,Nat.add_assoc]using this⟩
end
theorem Zrv (B g:Nat) (en:Int) (p:Pst) (Al:Option Addr) (cl:Nat) (vn vo:Value) (W:World) (h:Psr B g en p Al cl vn vo W):
 Calls prog 114 #[.pointer (some ⟨g,0,none⟩)] W fun e w'=>e= .returned (.tuple #[.int .i64 (Zci en p.l).1, .int .i64 (Zci en p.l).2])∧ ∃ n,w'=W.drewN n:=by
 obtain⟨c0,c1,-,-⟩:=h.cells;by_cases h0:0<p.l.length
 · obtain⟨b,o,rfl,-,hx⟩:=h.tok h0;obtain⟨x0,x1,-,-⟩:=hx 0 h0;have hX:Hid (Zci en p.l=(p.l[0].kind,p.l[0].at_)):=Zaqe en p.l h0;have hn:((p.l.length:Int)==0)=false:=by rw[Yak];omega
   have hi0:(0:Int)<(p.l.length:Int):=by omega
   simp only[Nat.zero_mul,Ydy]at x0 x1;clear hx;generalize p.l[0]=t at *;go_enter func114,ntmps114;go_wp2_with fail;go_quiet (fail);go_wp2;go_ret2;exact⟨by rw[hX.out];rfl,_,rfl⟩
 · have hX:Hid (Zci en p.l=(0,en)):=Zaya en p.l h0;have hl0:p.l.length=0:=by omega
   rw[hl0]at c0;clear h h0 hl0;go_enter func114,ntmps114;go_wp2_with fail;go_quiet (fail);go_wp2;go_ret2;exact⟨by rw[hX.out];rfl,_,rfl⟩
theorem Psr.lastO {B g:Nat} {en:Int} {p:Pst} {Al:Option Addr} {cl:Nat} {vn vo:Value} {W:World} (h:Psr B g en p Al cl vn vo W) (h0:0<p.opn.length): ∃ b c,vo= .slice (some ⟨b,0,none⟩) p.opn.length c∧p.opn.length≤c∧c≤maxLen∧W.cell? ⟨b,p.opn.length-1,none⟩=some (.int .i64 (topB p.opn)):=by
 obtain⟨-,-,-,-,-,-,h7⟩:=h;rcases h7.2 with⟨-,h2⟩|⟨q,cap,cur,h1,h2,h3,h4,h5,h6,h7'⟩
 · omega
 · refine⟨q,cap,h1,h4,h5, ?_⟩;subst h1;have hq:p.opn.length-1<p.opn.length:=by omega
   have:=h7.cells (g:=q) rfl (p.opn.length-1) _ (Zahf hq);rw[Zag,Ybi]at this;rw[this];unfold topB;rw[Ydh,Yaj hq]
theorem Zazr {o:List Nat} (h: ¬ 0<o.length):topB o= -1:=by
 cases o with
 |nil=>rfl
 |cons a l=>exact absurd (by simp) h
theorem Zbdv (B g:Nat) (en:Int) (p:Pst) (Al:Option Addr) (cl:Nat) (vn vo:Value) (W:World) (h:Psr B g en p Al cl vn vo W):
 Calls prog 149 #[.pointer (some ⟨g,0,none⟩)] W fun e w'=>e= .returned (.int .i64 (topB p.opn))∧ ∃ n,w'=W.drewN n:=by
 obtain⟨-,-,-,c3⟩:=h.cells;by_cases h0:0<p.opn.length
 · obtain⟨b,c,rfl,hc1,hc2,hx⟩:=h.lastO h0;have hn:((p.opn.length:Int)==0)=false:=by rw[Yak];omega
   have hi0:(0:Int)≤(p.opn.length:Int)-1:=by omega
   have hi1:(p.opn.length:Int)-1<(p.opn.length:Int):=by omega
   unfold maxLen at hc2;have hi2:(p.opn.length:Int)≤9223372036854775807:=by omega
   clear h;generalize topB p.opn=z at *;go_enter func149,ntmps149;go_wp2_with fail;go_quiet (fail);go_wp2;go_ret;exact⟨rfl,_,rfl⟩
 · have hX:=Zhd (Zazr h0);obtain⟨-,A,c,rfl⟩:=h.slices;have hl0:p.opn.length=0:=by omega
   rw[hl0]at c3;clear h h0 hl0;go_enter func149,ntmps149;go_wp2;go_ret;exact⟨by rw[hX.out];rfl,0,rfl⟩
theorem Psr.pop {B g:Nat} {en:Int} {p:Pst} {Al:Option Addr} {cl:Nat} {vn vo:Value} {W:World} (h:Psr B g en p Al cl vn vo W) {t:Tok} {r:List Tok} (hl:p.l=t::r):
 ∃ b o,Al=some ⟨b,o,none⟩∧1≤cl∧r.length+1≤cl∧
   (cl=1→r= []∧Psr B g en ⟨[],p.nodes,p.opn⟩ (some ⟨b,o,none⟩) 0 vn vo (W.setCell ⟨g,0,none⟩ (.slice (some ⟨b,o,none⟩) 0 0)))∧
   (cl≠1→Psr B g en ⟨r,p.nodes,p.opn⟩ (some ⟨b,o+4,none⟩) (cl-1) vn vo (W.setCell ⟨g,0,none⟩ (.slice (some ⟨b,o+4,none⟩) r.length (cl-1)))):=by
 have hlen:p.l.length=r.length+1:=by rw[hl];rfl
 obtain⟨b,o,rfl,hb,hx⟩:=h.tok (by omega)
 have hk:=h;obtain⟨k1,k2,k3,k4,k5,k6,k7⟩:=h;refine⟨b,o,rfl,by omega,by omega,fun h1=>⟨Yap (by omega),hk.setL (l:= []) (Yaf _) (by unfold maxLen;omega) ⟨rfl,fun h0=>absurd h0 (by simp)⟩⟩,fun h1=>hk.setL (by omega) (by omega) ⟨Zafr _,fun h0=> ?_⟩⟩
 obtain⟨ad,e,hb2,hx2⟩:=k5.2 (by omega)
 injection e with e
 subst e;refine⟨_,rfl,hb,fun j u hu=> ?_⟩
 have:=hx2 (4+j) u (by
  rw[hl,show t::r= [t]++r from rfl,Zuy,Zaio,Ybm (by simp[Tok.cells])]
  simpa[Tok.cells]using hu)
 rw[Zag]at this⊢;rw[Ydn];exact this
theorem Psr.head {B g:Nat} {en:Int} {p:Pst} {Al:Option Addr} {cl:Nat} {vn vo:Value} {W:World} (h:Psr B g en p Al cl vn vo W) {t:Tok} {r:List Tok} (hl:p.l=t::r):
 ∃ b o,Al=some ⟨b,o,none⟩∧b<B∧W.cell? ⟨b,o,none⟩=some (.int .i64 t.kind)∧W.cell? ⟨b,o+1,none⟩=some (.int .i64 t.at_)∧W.cell? ⟨b,o+2,none⟩=some (.string t.word)∧W.cell? ⟨b,o+3,none⟩=some (.int .i64 t.bit):=by
 have h0:0<p.l.length:=by rw[hl];simp
 obtain⟨b,o,e,hb,hx⟩:=h.tok h0;obtain⟨x0,x1,x2,x3⟩:=hx 0 h0;have e0:p.l[0]=t:=by simp[hl]
 rw[e0]at x0 x1 x2 x3;exact⟨b,o,e,hb,by simpa using x0,by simpa using x1,by simpa using x2,by simpa using x3⟩
def Zapn (g:Nat) (W:World):Nat:=match W.cell? ⟨g,0,none⟩with|some (.slice _ n _)=>n|_=>0
theorem Psr.len {B g:Nat} {en:Int} {p:Pst} {Al:Option Addr} {cl:Nat} {vn vo:Value} {W:World} (h:Psr B g en p Al cl vn vo W):Zapn g W=p.l.length:=by
 unfold Zapn;rw[h.cells.1]
theorem Psr.drewN {B g:Nat} {en:Int} {p:Pst} {Al:Option Addr} {cl:Nat} {vn vo:Value} {W:World} (h:Psr B g en p Al cl vn vo W) (n:Nat):Psr B g en p Al cl vn vo (W.drewN n):=h
theorem Zao {B:Nat} {w w':World} (h:Below B w w') (n:Nat):Below B w (w'.drewN n):=⟨h.os,h.tape,h.output,h.size,h.block⟩
theorem Zmh {B g:Nat} {en:Int} {p:Pst} {Al:Option Addr} {cl:Nat} {vn vo:Value} {W w:World} (h:Below B w W) (hp:Psr B g en p Al cl vn vo W) (v:Value):Below B w (W.setCell ⟨g,0,none⟩ v):=h.setCell (p:=⟨g,0,none⟩) hp.2.1 v
def Zxa (B g:Nat) (en:Int) (p:Pst) (vn vo:Value) (W:World) (e:Ending) (w':World):Prop:=
 e= .returned (.tuple #[.int .i64 (Zbs 0 p.l).1, .bool (Zbs 0 p.l).2.1])∧(∃ Al cl,Psr B g en ⟨(Zbs 0 p.l).2.2,p.nodes,p.opn⟩ Al cl vn vo w')∧Below B W w'
theorem Zaen (b:Int) {t:Tok} {r:List Tok} (h:t.kind≠5):Zbs b (t::r)=(b,decide (t.kind=1),t::r):=by
 unfold Zbs;rw[Yab h]
theorem Zaeo (b:Int) {t:Tok} {r:List Tok} (h:t.kind=5) (h2:bits .and .i64 b t.bit≠0):Zbs b (t::r)=(0,false,t::r):=by
 unfold Zbs;rw[Yam h,Yam h2]
theorem Zaku (b:Int) {t:Tok} {r:List Tok} (h:t.kind=5) (h2:bits .and .i64 b t.bit=0):Zbs b (t::r)=Zbs (bits .or .i64 b t.bit) r:=by
 conv=>lhs;unfold Zbs
 rw[Yam h,Yab (fun h=>h h2)]
theorem Zapu (B g:Nat) (en:Int) (p:Pst) (Al:Option Addr) (cl:Nat) (vn vo:Value) (W:World) (h:Psr B g en p Al cl vn vo W):
 Calls prog 115 #[.pointer (some ⟨g,0,none⟩)] W (Zxa B g en p vn vo W):=by
 have HP:=Zhd h;clear h;unfold Zxa;obtain⟨R,hR⟩: ∃ R,Zbs 0 p.l=R:=⟨_,rfl⟩;rw[hR];have HR:=Zhd hR;clear hR;go_enter func115,ntmps115;go_wp2;go_loopw [4] (fun v wr=> ∃ (b:Int) (l:List Tok) (A:Option Addr) (c:Nat),v= .int .i64 b∧Hid (Psr B g en ⟨l,p.nodes,p.opn⟩ A c vn vo wr)∧Hid (Zbs b l=R)∧Hid (Below B W wr)) (fun _ wr=>Zapn g wr)
 case atStart=>exact⟨0,p.l,Al,cl,rfl,HP,HR,Yag _ _⟩
 case round=>
  clear HP HR;obtain⟨b,l,A,c,rfl,HP,HR,HB⟩:=hrel;obtain⟨c0,-,-,-⟩:=HP.out.cells;have HL:=Zhd HP.out.len;cases l with
  | nil=>
    have HK:Hid (R=(b,false,[])):=by show _=_;rw[←HR.out];rfl
    have c0:wr.cell? ⟨g,0,none⟩=some (.slice A 0 c):=c0;clear HR HL;go_wp2_with fail;go_quiet (fail);go_wp2;go_ret2;refine⟨by rw[HK.out];rfl,⟨A,c, ?_⟩,Zao HB.out _⟩
    rw[HK.out];exact HP.out.drewN _
  | cons t r=>
    obtain⟨b2,o,rfl,hbB,x0,-,-,x3⟩:=HP.out.head rfl;have c0:wr.cell? ⟨g,0,none⟩=some (.slice (some ⟨b2,o,none⟩) (r.length+1) c):=c0;obtain⟨b3,o3,e3,hc1,hrc,HP1,HP2⟩:=HP.out.pop rfl;obtain⟨rfl,rfl⟩:b2=b3∧o=o3:=by cases e3;exact⟨rfl,rfl⟩
    have hf0:=HP.out.frozen 0;have hpos:(0:Int)<((r.length+1:Nat):Int):=by omega
    have hpos2:(0:Int)<(r.length:Int)+1:=by omega
    have hb2:=Zmh HB.out HP.out;by_cases hk:t.kind=5
    · have q1:(t.kind==5)=true:=beq_iff_eq.2 hk;by_cases ha:bits .and .i64 b t.bit=0
      · have q2:(bits .and .i64 b t.bit !=0)=false:=by rw[ha];rfl
        have HR2:Hid (Zbs (bits .or .i64 b t.bit) r=R):=by show _=_;rw[←HR.out,Zaku b hk ha]
        clear HR hk ha;by_cases h1:c=1
        · obtain⟨hr,hp3⟩:=HP1 h1;subst hr;have HP3:=Zhd hp3;have HB3:=Zhd (hb2 (.slice (some ⟨b2,o,none⟩) 0 0));have HL3:=Zhd HP3.out.len;have c0:wr.cell? ⟨g,0,none⟩=some (.slice (some ⟨b2,o,none⟩) 1 c):=c0;subst h1;clear HP1 HP2 hb2 hp3 hpos hpos2;go_wp2;go_roundw
          case rel=>exact⟨_,[],_,_,rfl,HP3,HR2,HB3⟩
          case measure=>rw[HL3.out,HL.out];simp
        · have HP3:=Zhd (HP2 h1);have HB3:=Zhd (hb2 (.slice (some ⟨b2,o+4,none⟩) r.length (c-1)));have HL3:=Zhd HP3.out.len;have h1': ¬ (1=c):=fun e=>h1 e.symm
          have hci:(1:Int)≤(c:Int):=by omega
          have hcs:(c:Int)-1=((c-1:Nat):Int):=by omega
          clear HP1 HP2 hb2;go_wp2;go_roundw
          case rel=>exact⟨_,r,_,_,rfl,HP3,HR2,HB3⟩
          case measure=>rw[HL3.out,HL.out];simp
      · have q2:(bits .and .i64 b t.bit !=0)=true:=by rw[bne_iff_ne];exact ha
        have HK:Hid (R=(0,false,t::r)):=by show _=_;rw[←HR.out,Zaeo b hk ha]
        clear HR HP1 HP2 hb2 hk ha;go_wp2;go_ret2;refine⟨by rw[HK.out];rfl,⟨some ⟨b2,o,none⟩,c, ?_⟩,HB.out⟩
        rw[HK.out];exact HP.out
    · have q1:(t.kind==5)=false:=Yak.2 hk
      have HK:Hid (R=(b,(t.kind==1),t::r)):=by
       show _=_;rw[←HR.out,Zaen b hk];congr 1
      clear HR HP1 HP2 hb2 hk;go_wp2_with fail;go_quiet (fail);go_wp2;go_ret2;refine⟨by rw[HK.out];rfl,⟨some ⟨b2,o,none⟩,c, ?_⟩,Zao HB.out _⟩
      rw[HK.out];exact HP.out.drewN _
end Go.Proofs.Zq
