import Derived.Deep.Onto
import Derived.Test.YtkbojechhmmkcaaGreatDoorK19
set_option linter.unusedVariables false
set_option linter.unusedSimpArgs false
set_option maxHeartbeats 4000000
set_option maxRecDepth 100000
namespace Go.Proofs.Zq
open Tryz
open Go Go.RowKit Go.Sort Tre Lx Prs Lns Edt
theorem Zaqd (w:World):
 Calls prog 20 #[] w fun e w'=>e= .returned (.agg #[.slice none 0 0, .slice none 0 0, .bool false, .slice none 0 0, .slice none 0 0, .bool false, .slice none 0 0, .slice none 0 0, .bool false, .slice none 0 0, .slice none 0 0, .int .i64 0, .int .i64 0, .int .i64 0, .slice none 0 0])∧Below w.heap.size w w':=by
 have hb:=Zhd ((Yag w.heap.size w).alloc (Yaf _) (.cells #[.slice none 0 0, .slice none 0 0, .bool false, .slice none 0 0, .slice none 0 0, .bool false, .slice none 0 0, .slice none 0 0, .bool false, .slice none 0 0, .slice none 0 0, .int .i64 0, .int .i64 0, .int .i64 0, .slice none 0 0] 32));go_enter func20,ntmps20;go_wp2
 first
  |(go_ret;exact⟨rfl,hb.out⟩)
  |exact bodyPost_ret (v:= .agg #[.slice none 0 0, .slice none 0 0, .bool false, .slice none 0 0, .slice none 0 0, .bool false, .slice none 0 0, .slice none 0 0, .bool false, .slice none 0 0, .slice none 0 0, .int .i64 0, .int .i64 0, .int .i64 0, .slice none 0 0]) (by simp[results,results20,go_sem]) rfl ⟨rfl,hb.out⟩
theorem Zahi (v0 v2 v3 v4 v5 v6 v7 v8 v9 v10 v11 v12 v13 v14:Value) (Ar:Option Addr) (n cr:Nat) (num:Int) (w:World) (h:(n=0∧num=0)∨ ∃ b o,Ar=some ⟨b,o,none⟩∧0<n∧n≤1000000∧b<w.heap.size∧w.cell? ⟨b,o+(n-1)*2,none⟩=some (.int .i64 num)):
 Calls prog 18 #[.agg #[v0, .slice Ar n cr,v2,v3,v4,v5,v6,v7,v8,v9,v10,v11,v12,v13,v14]] w fun e w'=>e= .returned (.int .i64 num)∧Below w.heap.size w w':=by
 have hb:=Zhd ((Yag w.heap.size w).alloc (Yaf _) (.cells #[v0, .slice Ar n cr,v2,v3,v4,v5,v6,v7,v8,v9,v10,v11,v12,v13,v14] 32));rcases h with⟨rfl,rfl⟩|⟨b,o,rfl,h0,h1,hbl,hc⟩
 · go_enter func18,ntmps18;go_wp2;go_ret;exact⟨rfl,hb.out⟩
 · obtain⟨m,rfl⟩: ∃ m,n=m+1:=⟨n-1,by omega⟩
   have hc:w.cell? ⟨b,o+m*2,none⟩=some (.int .i64 num):=hc;have hm63:(m:Int)+1≤9223372036854775807:=by omega
   have hm0:(0:Int)≤(m:Int):=by omega
   have hne1:(((m:Int)+1)==0)=false:=by rw[Yak];omega
   have hlt:(m:Int)<(m:Int)+1:=by omega
   have hwr:IntKind.i64.wrap (m:Int)=m:=IntWalk.i64_in _ (by omega)
   clear h0 h1;go_enter func18,ntmps18;go_wp2;go_ret;exact⟨rfl,hb.out⟩
theorem Zaha:(prog.info? 69).map (fun i=>(i.zero,i.size,i.bytes))=some (some (.agg #[.int .i64 0, .slice none 0 0]),2,32):=by kernel_rfl
theorem Zajn (A:Option Addr) (c n:Nat) (xs:List Value) (w:World) (hR:Rd w 2 A n xs) (hnil:A=none→c=0) (hb:n≤1000000) (h1: ∀ u∈xs,u.oneCell'=true):
 Calls prog 49 #[.slice A n c] w fun e w'=>(∃ v,e= .returned v∧w'.ownsRow w.heap.size 69 2 v n xs)∧Below w.heap.size w w':=by
 obtain⟨i0,hii,hz0,hz1,hz2⟩:=info_parts Zaha;cases A with
 | none=>
   have h0:n=0:=by
    rcases Ybj n with h|h
    · exact h
    · obtain⟨ad,e,-⟩:=hR.2 h;cases e
   subst h0;have hx:xs= []:=Yap (by simpa using hR.1)
   subst hx;obtain rfl:=hnil rfl;have heq:=fun wx:World=>Lib.run_eql_slice_nil (P:=prog) wx 27 69 none 0 0 0 0 underlying27
   clear hR;go_enter func49,ntmps49;go_wp2;go_ret;exact⟨⟨_,rfl,World.ownsRow_nil _ _ _ _⟩,Yag _ _⟩
 | some ad=>
   obtain⟨wo,hwo⟩: ∃ wo,w.alloc (.cells #[] 69)=wo:=⟨_,rfl⟩;have hbo:Below w.heap.size w wo:=by rw[←hwo];exact(Yag _ _).alloc (Yaf _) _
   have hown:wo.ownsRow w.heap.size 69 2 (.slice (some ⟨w.heap.size,0,none⟩) 0 0) 0 []:=by
    rw[←hwo];have:=World.ownsRow_lit (e:=69) (size:=2) (base:=w.heap.size) w #[] 0 (Yaf _) (by unfold maxLen;omega) rfl
    simpa using this
   have HR:=Zhd (hR.below hbo);have HO:=Zhd hown;have HBo:=Zhd hbo;have H1:=Zhd h1;have heq:=fun wx:World=>Lib.run_eql_slice_nil (P:=prog) wx 27 69 (some ad) n c 0 0 underlying27
   have HN:Hid (0+n≤1000000000):=by show _≤_;omega
   clear hR hown hbo h1;go_enter func49,ntmps49;go_wp2_with (at_builtin;(refine Zxh rfl _ _ 27 rfl w wo 69 i0 _ 2 32 underlying27 hii hz0 hz1 hz2 rfl (by decide) (by decide) HO.out HBo.out rfl (some ad) n c xs rfl HR.out (fun h=>by cases h) H1.out HN.out ?_;intro v1 w3 hown1 hb3))
   have HO3:Hid (w3.ownsRow w.heap.size 69 2 v1 n xs):=by show World.ownsRow _ _ _ _ _ _ _;simpa using hown1
   clear hown1;go_wp2_with fail;go_ret;exact⟨⟨_,rfl,HO3.out⟩,hb3⟩
end Go.Proofs.Zq
namespace Edt
open Go Go.Lib Tre
def Zrg (L:List Line) (i:Nat):Bool:=decide (i+1=L.length)||decide (Zaj L (i+1)≤Zaj L i)
def Zbx (L:List Line) (k:Nat):List Nat:=(List.range k).filter (Zrg L)
theorem Zyp (L:List Line) (k:Nat):Zbx L (k+1)=if Zrg L k then Zbx L k++ [k]else Zbx L k:=by
 unfold Zbx;rw[Ydg,Yco];cases h:Zrg L k<;>simp[h]
theorem Zlp (L:List Line) (k:Nat):(Zbx L k).length≤k:=by
 have:=Yck (Zrg L) (List.range k);rw[Yfb]at this;exact this
theorem Zapm {L:List Line} {k:Nat} (h:k+1=L.length):Zrg L k=true:=by unfold Zrg;rw[Yal h];rfl
theorem Zbcp {L:List Line} {k:Nat} (h1:k+1<L.length):Zrg L k=decide (L[k+1].depth≤(L[k]'(by omega)).depth):=by
 unfold Zrg;rw[Yai (by omega),Bool.false_or,Zaq h1,Zaq (by omega)]
end Edt
namespace Go.Proofs.Zq
open Tryz
open Go Go.RowKit Go.Sort Tre Lx Prs Lns Edt
theorem Zakp (A:Option Addr) (cap:Nat) (L:List Line) (w:World) (hR:Rd w 3 A L.length (lines L)) (hcap:L.length≤cap) (hc:cap≤maxLen) (hr:Zab L=true):
 Calls prog 91 #[.slice A L.length cap] w fun e w'=>(∃ v,e= .returned v∧w'.ownsRow w.heap.size 3 1 v (Zbx L L.length).length (iv (Zbx L L.length)))∧Below w.heap.size w w':=by
 obtain⟨i0,hi,hz0,hz1,hz2⟩:=info_parts Zti;have hRi:=Zbm A cap L w hR hcap hc;rw[hr]at hRi;have HRi:=Zhd hRi;have h200:=Zau hr;have HR:=Zhd hR;clear hR hr hRi;unfold maxLen at hc;go_enter func91,ntmps91;go_wp2_with fail;refine HRi.out.mono ?_;rintro e w1 ⟨rfl,hb1⟩;have HB1:=Zhd hb1;clear HRi hb1;go_wp2;go_loopw [3,10] (fun v vi wr=> ∃ k:Nat,vi= .int .i64 k∧k≤L.length∧Hid (wr.ownsRow w.heap.size 3 1 v (Zbx L k).length (iv (Zbx L k)))∧Hid (Below w.heap.size w wr)) (fun _ vi _=>L.length-(intOf vi).toNat)
 case atStart=>exact⟨0,rfl,Yas _,World.ownsRow_nil _ _ _ _,HB1.out⟩
 case round=>
  clear HB1;obtain⟨k,rfl,hk,HO,HB⟩:=hrel;by_cases hlt:k<L.length
  · have hll:=Zlp L k;have hst:=Zhd (Zyp L k);by_cases hlast:k+1=L.length
    · have HS:Hid (Zbx L (k+1)=Zbx L k++ [k]):=by show _=_;rw[hst.out,Zapm hlast];rfl
      have qe:(((k:Int)+1)==(L.length:Int))=true:=by rw[beq_iff_eq];omega
      clear hst;go_wp2_with fail;go_quiet (fail);go_wp2_with (at_builtin;refine Zfv rfl _ _ 125 rfl w _ 3 i0 _ 1 8 underlying125 hi hz0 hz1 hz2 rfl (by decide) (by decide) (Zai HO.out (Zao (Yag _ _) _)) (Zao HB.out _) rfl 1 1 [.int .i64 (k:Int)] (by show Value.slice (some ⟨_,0,none⟩) 1 1=_;simp) rfl (by simp;rfl) (by omega) ?_;intro v' w' hown' hb')
      have HO3:=Zhd (Zqr hown');have HB3:=Zhd hb';clear hown' hb';go_wp2_with fail;go_roundw
      case rel=>exact⟨k+1,by go_num,by omega,by rw[HS.out];exact HO3.out,HB3.out⟩
      case measure=>simp[intOf];omega
    · have h1:k+1<L.length:=by omega
      have qe:(((k:Int)+1)==(L.length:Int))=false:=by rw[Yak];omega
      have hk1:(k:Int)+1<(L.length:Int):=by omega
      have hk2:(0:Int)≤(k:Int)+1:=by omega
      have hla:=Zhd (Zbcp h1);obtain⟨B,O,rfl,hab,hadd,x0,-,-⟩:=(HR.out.below HB.out).line hlt;obtain⟨B2,O2,e2,-,hadd2,z0,-,-⟩:=(HR.out.below HB.out).line h1;obtain⟨rfl,rfl⟩:B=B2∧O=O2:=by cases e2;exact⟨rfl,rfl⟩
      generalize L[k+1].depth=d2 at *;generalize L[k].depth=d1 at *;clear e2;by_cases hd:d2≤d1
      · have HS:Hid (Zbx L (k+1)=Zbx L k++ [k]):=by show _=_;rw[hst.out,hla.out,Yal hd];rfl
        clear hst hla;go_wp2_with fail;go_quiet (fail);go_wp2_with (at_builtin;refine Zfv rfl _ _ 125 rfl w _ 3 i0 _ 1 8 underlying125 hi hz0 hz1 hz2 rfl (by decide) (by decide) (Zai HO.out (Zao (Yag _ _) _)) (Zao HB.out _) rfl 1 1 [.int .i64 (k:Int)] (by show Value.slice (some ⟨_,0,none⟩) 1 1=_;simp) rfl (by simp;rfl) (by omega) ?_;intro v' w' hown' hb')
        have HO3:=Zhd (Zqr hown');have HB3:=Zhd hb';clear hown' hb' x0 z0;go_wp2_with fail;go_roundw
        case rel=>exact⟨k+1,by go_num,by omega,by rw[HS.out];exact HO3.out,HB3.out⟩
        case measure=>simp[intOf];omega
      · have HS:Hid (Zbx L (k+1)=Zbx L k):=by show _=_;rw[hst.out,hla.out,Yai hd];rfl
        clear hst hla;go_wp2_with fail;go_quiet (fail);go_wp2;go_roundw
        case rel=>exact⟨k+1,by go_num,by omega,by rw[HS.out];exact Zai HO.out (Zao (Yag _ _) _),Zao HB.out _⟩
        case measure=>simp[intOf];omega
  · have hke:k=L.length:=by omega
    subst hke;go_wp2;go_ret;exact⟨⟨_,rfl,HO.out⟩,HB.out⟩
def insMB (L:List Line) (i:Nat) (V:List Line):List Line:=L.take i++V++L.drop i
theorem Zlm (L:List Line) {i:Nat} (V:List Line):(insMB L i V).length=L.length+V.length:=by
 unfold insMB;rw[Yae,Yae,Yah,Yan];omega
theorem Zqn (L V:List Line) (i:Nat):lines (insMB L i V)=lines (L.take i)++lines V++lines (L.drop i):=by
 unfold insMB;rw[Zbg,Zbg]
theorem Zafi (L V:List Line) (i:Nat) (hi:i≤L.length) (cur:List Value) (h:cur.take (i*3)=lines (L.take i)) (hc:(L.length+V.length)*3≤cur.length):
 (segs (segs cur ((i+V.length)*3) (lines (L.drop i))) (i*3) (lines V)).take ((L.length+V.length)*3)=lines (insMB L i V):=by
 have h1:(lines (L.drop i)).length=(L.length-i)*3:=by rw[Zae,Yan]
 have hV:=Zae V
 have h4:((segs cur ((i+V.length)*3) (lines (L.drop i))).take (i*3))=lines (L.take i):=by
  unfold segs;rw[Ybc,Yce (by rw[Yah];omega),Ycl,Yba (by omega),h]
 have h5:(segs cur ((i+V.length)*3) (lines (L.drop i))).drop (i*3+(lines V).length)=lines (L.drop i)++cur.drop ((i+V.length)*3+(lines (L.drop i)).length):=by
  have e:(cur.take ((i+V.length)*3)).length=i*3+(lines V).length:=by
   rw[Yah];omega
  unfold segs;rw[Ybc,List.drop_left' e]
 have h7:segs (segs cur ((i+V.length)*3) (lines (L.drop i))) (i*3) (lines V)=lines (insMB L i V)++cur.drop ((i+V.length)*3+(lines (L.drop i)).length):=by
  rw[show segs (segs cur ((i+V.length)*3) (lines (L.drop i))) (i*3) (lines V)=(segs cur ((i+V.length)*3) (lines (L.drop i))).take (i*3)++lines V++(segs cur ((i+V.length)*3) (lines (L.drop i))).drop (i*3+(lines V).length)from rfl];rw[h4,h5,Zqn];simp only[Ybc]
 rw[h7,Yea];rw[Zae,Zlm]
theorem Zafh (L V:List Line) (i:Nat) (hi:i≤L.length) (cur:List Value) (h:cur.take (i*3)=lines (L.take i)):
 (segs (segs cur (i*3) (lines V)) ((i+V.length)*3) (lines (L.drop i))).take ((L.length+V.length)*3)=lines (insMB L i V):=by
 have h2:(lines (L.take i)).length=i*3:=by rw[Zae,Yah,Yba hi]
 have hV:=Zae V
 have h4:(segs cur (i*3) (lines V)).take ((i+V.length)*3)=lines (L.take i)++lines V:=by
  unfold segs;rw[h,Yea];rw[Yae,h2];omega
 have h7: ∃ r,segs (segs cur (i*3) (lines V)) ((i+V.length)*3) (lines (L.drop i))=lines (insMB L i V)++r:=by
  refine⟨(segs cur (i*3) (lines V)).drop ((i+V.length)*3+(lines (L.drop i)).length), ?_⟩;rw[show segs (segs cur (i*3) (lines V)) ((i+V.length)*3) (lines (L.drop i))=(segs cur (i*3) (lines V)).take ((i+V.length)*3)++lines (L.drop i)++(segs cur (i*3) (lines V)).drop ((i+V.length)*3+(lines (L.drop i)).length)from rfl];rw[h4,Zqn]
 obtain⟨r,h7⟩:=h7;rw[h7,Yea];rw[Zae,Zlm]
theorem Zuc {w:World} {k:Nat} {a:Addr} {n:Nat} {xs:List Value} (h:Rd w k (some a) n xs): ∀ j v,xs[j]?=some v→w.cell? (a.add j)=some v:=by
 intro j v hj;rcases Ybj n with h0|h0
 · have:xs= []:=Yap (by rw[h.1,h0,Nat.zero_mul])
   rw[this]at hj;cases hj
 · obtain⟨ad,e,-,hx⟩:=h.2 h0;cases e;exact hx j v hj
theorem Zzk {w:World} {a:Addr} {v:Value} (h:w.cell? a=some v): ∃ t k,w.shape? a.block=some (t,k+1):=by
 unfold World.cell? at h;unfold World.shape?;cases hq:w.heap[a.block]? with
 |none=>rw[hq]at h;cases h
 | some o=>
   rw[hq]at h;cases o with
   | cells c t z=>
     simp only at h⊢;split at h
     · cases h
     · have:=(Ybf.1 h).1;obtain⟨k,hk⟩: ∃ k,c.size=k+1:=⟨c.size-1,by omega⟩
       exact⟨t,k,by rw[hk]⟩
   |_=>cases h
theorem Zpj {P:Program} (w:World) (tS tR e:TypeId) (ht:P.underlying tS=some (.slice e)) (size:Nat) (hz: ∀ w,(Go.sizeOf e).run P w= .ok size w)
 (a b:Addr) (la ca lb cb:Nat) (hne:a.block≠b.block) (tA:TypeId) (kA:Nat) (tB:TypeId) (kB:Nat)
 (hsa:w.shape? a.block=some (tA,kA+1)) (hsb:w.shape? b.block=some (tB,kB)) (hkB:kB≠0)
 (hfb:w.frozen? b=false) (hfe:w.frozen? {block:=b.block,off:=kB}=false):
 (Extern.SlicesOverlaps.overlaps #[tS,tS] #[tR] #[.slice (some a) la ca, .slice (some b) lb cb]).run P w= .ok (.bool false) w:=by
 have hnb:(a.block !=b.block)=true:=by simpa using hne
 have hnb':(a.block==b.block)=false:=by simpa using hne
 change Sem.run P (α:=Value) (do
  let some t:=(#[tS,tS]:Array TypeId)[0]?|stuck "slices.overlaps: no parameter types"
  let .slice elem←underlying t|stuck "slices.overlaps: slice type expected"
  let size←sizeOf elem
  match (some a:Option Addr),(some b:Option Addr)with
  | some a,some b=>
    if la=0∨lb=0∨size=0 then pure (Value.bool false)
    else if a.block !=b.block&&(←frozen a)&&(←frozen b)then unsupported .addressObserved
    else do
     if a.block !=b.block then do
      noView a;noView b
      if←mayBeOne a b then return Value.bool ((←choose (.extern "sameAddr.stringBytes" 2))==1)
     pure (Value.bool (a.block==b.block&&a.off<b.off+lb*size&&b.off<a.off+la*size))
  |_,_=>pure (Value.bool false)) w=_
 by_cases h0:la=0∨lb=0∨size=0
 · simp[run_underlying ht,hz,h0]
 · cases kB with
   |zero=>exact absurd rfl hkB
   | succ kB=>
     cases hfa:w.frozen? a with
     |true=>simp[run_underlying ht,hz,h0,hnb,hnb',frozen,noView,viewAt,mayBeOne,stringish,shape,Sem.run,hsa,hsb,hfa,hfb,hfe]
     | false=>cases hfk:w.frozen? {block:=a.block,off:=kA+1}with
       |true=>simp[run_underlying ht,hz,h0,hnb,hnb',frozen,noView,viewAt,mayBeOne,stringish,shape,Sem.run,hsa,hsb,hfa,hfb,hfe,hfk]
       |false=>simp[run_underlying ht,hz,h0,hnb,hnb',frozen,noView,viewAt,mayBeOne,stringish,shape,Sem.run,hsa,hsb,hfa,hfb,hfe,hfk]
theorem Zsq {w:World} {g:Nat} {cs:Array Value} {x:Addr} (h:x.block≠g):(w.setRow g cs).cell? x=w.cell? x:=by
 unfold World.cell?;simp only[World.setRow];rw[Ydi,Yab (fun e=>h e.symm)]
theorem Zabk (w0 w:World) (g n c i vb vo m vc:Nat) (cur:Array Value) (L V:List Line) (hb:Below w0.heap.size w0 w) (hg:w0.heap.size≤g) (hh:w.heap[g]?=some (.cells cur 62 (0,0))) (hn:L.length=n) (hvl:V.length=m) (hm:0<m) (hi:i<n) (hroom:n+m≤c) (hcm:c≤maxLen) (hsz:cur.size=c*3) (ht:cur.toList.take (n*3)=lines L)
 (hv:Rd w 3 (some ⟨vb,vo,none⟩) m (lines V)) (hne:vb≠g):
 Calls prog 94 #[.slice (some ⟨g,0,none⟩) n c, .int .i64 i, .slice (some ⟨vb,vo,none⟩) m vc] w fun e w'=>
  (∃ v',e= .returned v'∧w'.ownsRow w0.heap.size 62 3 v' (n+m) (lines (insMB L i V)))∧Below w0.heap.size w0 w':=by
 have hc63:c≤9223372036854775807:=by unfold maxLen at hcm;omega
 have hcl:(lines (L.drop i)).length=(n-i)*3:=by rw[Zae,Yan,hn]
 have hVl:(lines V).length=m*3:=by rw[Zae,hvl]
 have hcur:cur.toList.length=c*3:=by rw[←hsz];simp
 have hpre:cur.toList.take (i*3)=lines (L.take i):=Zsd (by omega) (by rw[hn];exact ht)
 have hat: ∀ j v,(lines (L.drop i))[j]?=some v→w.cell? ((⟨g,i*3,none⟩:Addr).add j)=some v:=fun j v hj=>by
  rw[Zag,cell_of_row w g _ cur _ (0,0) hh];have hjl:j<(n-i)*3:=by rw[←hcl];exact(Ybb.1 hj).1
  have h1:(lines L)[i*3+j]?=some v:=by
   rw[Zhk L i,Ybm (by rw[Zae,Yah,hn];omega),Zae,Yah,hn,Yba (by omega),Yed]
   exact hj
  rw[←ht,Ycv]at h1;split at h1
  · simpa using h1
  · cases h1
 have hsrc:=Zuc hv;obtain⟨tA,kA,hsa⟩:=Zzk (hsrc 0 ((lines V)[0]'(by omega)) (Yaj _))
 have hov: ∀ lb cb,(callFunc 127 #[.slice (some ⟨vb,vo,none⟩) m vc, .slice (some ⟨g,(i+m)*3,none⟩) lb cb]).run prog w= .ok (.value (.bool false)) w:=fun lb cb=>by
  rw[run_callFunc_extern func127 (by kernel_rfl) (by kernel_rfl) (by kernel_rfl) (e:=Extern.SlicesOverlaps.overlaps #[26,26] #[4]) (by kernel_rfl),
   Zpj w 26 4 62 underlying26 3 Zacl ⟨vb,vo,none⟩ ⟨g,(i+m)*3,none⟩ m vc lb cb hne tA kA 62 cur.size hsa (by simp[World.shape?,hh]) (by omega) (by simp[World.frozen?,hh]) (by simp[World.frozen?,hh])]
  rfl
 obtain⟨cur1,hcur1⟩: ∃ cur1,(segs cur.toList ((i+m)*3) (lines (L.drop i))).toArray=cur1:=⟨_,rfl⟩;have hl1:cur1.toList.length=c*3:=by
  rw[←hcur1];show(segs _ _ _).length=_;rw[Zid (by rw[hcl,hcur];omega),hcur]
 obtain⟨w1,hw1⟩: ∃ w1,w.drew.setRow g cur1=w1:=⟨_,rfl⟩;have hh1:w1.heap[g]?=some (.cells cur1 62 (0,0)):=by rw[←hw1];exact setRow_heap w.drew g cur cur1 _ _ hh
 have hcp1: ∀ ty dc sc,(Builtin.copy_ #[26,26] ty #[.slice (some ⟨g,(i+m)*3,none⟩) (n+m-(i+m)) dc, .slice (some ⟨g,i*3,none⟩) (n+m-i) sc]).run prog w.drew= .ok (goInt ((n-i:Nat):Int)) w1:=fun ty dc sc=>by
  have:=Zdc 3 w.drew 26 26 ty 62 g ((i+m)*3) (n+m-(i+m)) dc ⟨g,i*3,none⟩ (n+m-i) sc cur 62 (lines (L.drop i)) underlying26 Zia hh (by rw[hcl];congr 1;simp only[Ydv];split<;>omega) hat (by rw[hcl,hsz];omega) (Zjz _)
  rw[this,show Nat.min (n+m-i) (n+m-(i+m))=n-i by simp only[Ydv];split<;>omega,←hw1,←hcur1]
  rfl
 have hsrc1: ∀ j v,(lines V)[j]?=some v→w1.cell? ((⟨vb,vo,none⟩:Addr).add j)=some v:=fun j v hj=>by
  rw[←hw1,Zsq (by rw[Zag];exact hne)]
  exact hsrc j v hj
 have hcp2: ∀ ty dc,(Builtin.copy_ #[26,26] ty #[.slice (some ⟨g,i*3,none⟩) (n+m-i) dc, .slice (some ⟨vb,vo,none⟩) m vc]).run prog w1= .ok (goInt (m:Int)) (w1.setRow g (segs cur1.toList (i*3) (lines V)).toArray):=fun ty dc=>by
  have:=Zdc 3 w1 26 26 ty 62 g (i*3) (n+m-i) dc ⟨vb,vo,none⟩ m vc cur1 62 (lines V) underlying26 Zia hh1 (by rw[hVl,show Nat.min m (n+m-i)=m by simp only[Ydv];split<;>omega])
   hsrc1 (by rw[←Yau,hl1,hVl];omega) (Zjz _)
  rw[this,show Nat.min m (n+m-i)=m by simp only[Ydv];split<;>omega]
  rfl
 obtain⟨w2,hw2⟩: ∃ w2,w1.setRow g (segs cur1.toList (i*3) (lines V)).toArray=w2:=⟨_,rfl⟩;rw[hw2]at hcp2
 have hB:Hid (Below w0.heap.size w0 w2):=by
  show Below _ _ _;rw[←hw2,←hw1];exact Zdu (Zdu hb.drew hg _) hg _
 have hO:Hid (w2.ownsRow w0.heap.size 62 3 (.slice (some ⟨g,0,none⟩) (n+m) c) (n+m) (lines (insMB L i V))):=by
  refine⟨by rw[Zae,Zlm,hn,hvl], .inr ⟨g,c,(segs cur1.toList (i*3) (lines V)).toArray,rfl,hg, ?_,hroom,hcm, ?_, ?_⟩⟩
  · rw[←hw2];exact setRow_heap w1 g cur1 _ _ _ hh1
  · rw[←Yau];show(segs _ _ _).length=_;rw[Zid (by rw[hl1,hVl];omega),hl1]
  · show(segs cur1.toList (i*3) (lines V)).take _=_;rw[←hcur1,←hn,←hvl];exact Zafi L V i (by omega) cur.toList hpre (by rw[hcur,hn,hvl];omega)
 have hz1: ¬ ((m:Int)=0):=by omega
 have hz2: ¬ ((i:Int)=(n:Int)):=by omega
 have hw1':IntKind.i64.wrap ((i:Int)+(m:Int))=(i:Int)+(m:Int):=by rw[IntKind.wrap_i64];omega
 have hz3: ¬ ((c:Int)<(n:Int)+(m:Int)):=by omega
 have hb1:(0:Int)≤(i:Int)+(m:Int):=by omega
 have hin:i≤n:=by omega
 have htn:((i:Int)+(m:Int)).toNat=i+m:=by omega
 have hb2: ¬ (c=i+m):=by omega
 have hb3:(i:Int)≤(n:Int)+(m:Int):=by omega
 have hb4: ¬ (c=i):=by omega
 clear hcl hcur hpre hat hcur1 hl1 hw1 hh1 hsrc hsrc1 hw2 ht hh hv hb hsz hsa hVl;have mixed:prog.follows .mixedOrders=true:=by kernel_rfl
 go_enter func94,ntmps94;go_wp2_with (simp only[hov]);go_region_law_o (refine step_copy_runI rfl _ _ 26 26 rfl _ _ (by simp[Act.eval,Act.put]) (by simp[Act.eval,Act.put]) (hcp1 _ _ _) ?_)
 go_wp2_with (at_builtin;refine wpList_copy_runI _ rfl _ _ 26 26 rfl _ _ rfl rfl (hcp2 _ _) ?_);go_ret;exact⟨⟨_,rfl,hO.out⟩,hB.out⟩
theorem Zabj (w0 w:World) (g n c i vb vo m vc:Nat) (cur:Array Value) (L V:List Line) (hb:Below w0.heap.size w0 w) (hh:w.heap[g]?=some (.cells cur 62 (0,0))) (hn:L.length=n) (hn9:n≤1000000) (hvl:V.length=m) (hm:0<m) (hm9:m≤1000000) (hi:i<n) (hnc:n≤c) (hroom:c<n+m) (hsz:cur.size=c*3) (ht:cur.toList.take (n*3)=lines L)
 (hv:Rd w 3 (some ⟨vb,vo,none⟩) m (lines V)):
 Calls prog 94 #[.slice (some ⟨g,0,none⟩) n c, .int .i64 i, .slice (some ⟨vb,vo,none⟩) m vc] w fun e w'=>
  (∃ v',e= .returned v'∧w'.ownsRow w0.heap.size 62 3 v' (n+m) (lines (insMB L i V)))∧Below w0.heap.size w0 w':=by
 obtain⟨i0,hii,hz0,hzs,hzb⟩:=info_parts Zii;have hcl:(lines (L.drop i)).length=(n-i)*3:=by rw[Zae,Yan,hn]
 have hct:(lines (L.take i)).length=i*3:=by rw[Zae,Yah,hn,Yba (by omega)]
 have hVl:(lines V).length=m*3:=by rw[Zae,hvl]
 have hcur:cur.toList.length=c*3:=by rw[←hsz];simp
 have hpre:cur.toList.take (i*3)=lines (L.take i):=Zsd (by omega) (by rw[hn];exact ht)
 have hgw:g<w.heap.size:=(Ybf.1 hh).1
 have hold:(Builtin.firstCells i0.size i (.slice (some ⟨g,0,none⟩) i c)).run prog w.drew= .ok (lines (L.take i)).toArray w.drew:=by
  rw[hzs]
  exact run_firstCells_some w.drew 3 i ⟨g,0,none⟩ i c (lines (L.take i)) hct (fun j v hj=>by
   rw[Zag,Ybi];show w.cell? _=_;rw[cell_of_row w g _ cur _ (0,0) hh];rw[←hpre,Ycv]at hj;split at hj
   · simpa using hj
   · cases hj)
 have hkk:(n:Int)+(m:Int)-(i:Int)=((n+m-i:Nat):Int):=by omega
 have hik:i+(n+m-i)=n+m:=by omega
 have hrz: ∀ ty,(Builtin.append_ #[26,3] ty #[.slice (some ⟨g,0,none⟩) i c, .int .i64 ((n:Int)+(m:Int)-(i:Int))]).run prog w=
  .ok (.slice (some ⟨w.heap.size,0,none⟩) (n+m) (grownCap w (n+m) c 62)) (w.drew.alloc (.cells ((lines (L.take i)).toArray++Builtin.zeroCells (Value.agg #[.int .i64 0, .string ⟨#[]⟩, .int .i64 0]).cells (n+m-i)++Builtin.zeroCells (Value.agg #[.int .i64 0, .string ⟨#[]⟩, .int .i64 0]).cells (grownCap w (n+m) c 62-(n+m))) 62)):=fun ty=>by
  have h:=Lib.run_append_grow_zeros w 26 3 ty 62 i0 _ .i64 .i64 underlying26 underlying3 hii hz0 (some ⟨g,0,none⟩) i c (lines (L.take i)) hold (n+m-i) (by omega) (by omega) (by omega) (by omega) (by rw[hzb];omega) (by rw[hzb,hik];exact growslice_fits hroom (by omega))
  rw[hik]at h;rw[hkk];exact h
 obtain⟨G,hG⟩: ∃ G,G=grownCap w (n+m) c 62:=⟨_,rfl⟩;have hGn:n+m≤G:=by rw[hG];exact grownCap_ge w _ _ _
 have hGm:G≤maxLen:=by rw[hG];exact grownCap_le_maxLen w (n+m) c 62 (by unfold maxLen;omega)
 rw[←hG]at hrz;obtain⟨ROW,hROW⟩: ∃ ROW:Array Value,ROW=(lines (L.take i)).toArray++Builtin.zeroCells (Value.agg #[.int .i64 0, .string ⟨#[]⟩, .int .i64 0]).cells (n+m-i)++Builtin.zeroCells (Value.agg #[.int .i64 0, .string ⟨#[]⟩, .int .i64 0]).cells (G-(n+m)):=⟨_,rfl⟩;rw[←hROW]at hrz;have hRs:ROW.size=G*3:=by
  rw[hROW,Array.size_append,Array.size_append,Zmz,Zmz,Yds,hct];omega
 have hRl:ROW.toList.length=G*3:=by rw[←hRs];simp
 have hRt:ROW.toList.take (i*3)=lines (L.take i):=by
  rw[hROW,Array.toList_append,Array.toList_append,Ybc,←hct];exact List.take_left
 obtain⟨W1,hW1⟩: ∃ W1,w.drew.alloc (.cells ROW 62)=W1:=⟨_,rfl⟩;rw[hW1]at hrz;obtain⟨N,hN⟩: ∃ N,w.heap.size=N:=⟨_,rfl⟩;have hh1:W1.heap[N]?=some (.cells ROW 62 (0,0)):=by rw[←hW1,←hN];exact heap_alloc_new w.drew _
 have hBw:Below w.heap.size w W1:=by rw[←hW1];exact(Yag w.heap.size w).drew.alloc (Yaf _) _
 have hg1:W1.heap[g]?=some (.cells cur 62 (0,0)):=by
  rw[←hW1,heap_alloc_old (r:=g) w.drew _ hgw];exact hh
 obtain⟨w2,hw2⟩: ∃ w2,W1.setRow N (segs ROW.toList (i*3) (lines V)).toArray=w2:=⟨_,rfl⟩;have hl1:(segs ROW.toList (i*3) (lines V)).length=G*3:=by rw[Zid (by rw[hRl,hVl];omega),hRl]
 have hcpA: ∀ ty dc,(Builtin.copy_ #[26,26] ty #[.slice (some ⟨N,i*3,none⟩) (n+m-i) dc, .slice (some ⟨vb,vo,none⟩) m vc]).run prog W1= .ok (goInt (m:Int)) w2:=fun ty dc=>by
  have:=Zdc 3 W1 26 26 ty 62 N (i*3) (n+m-i) dc ⟨vb,vo,none⟩ m vc ROW 62 (lines V) underlying26 Zia hh1 (by rw[hVl,show Nat.min m (n+m-i)=m by simp only[Ydv];split<;>omega])
   (Zuc (hv.below hBw)) (by rw[hRs,hVl];omega) (Zjz _)
  rw[this,show Nat.min m (n+m-i)=m by simp only[Ydv];split<;>omega,←hw2]
  rfl
 have hNg:N≠g:=by omega
 have hh2:w2.heap[N]?=some (.cells (segs ROW.toList (i*3) (lines V)).toArray 62 (0,0)):=by rw[←hw2];exact setRow_heap W1 N ROW _ _ _ hh1
 have hg2:w2.heap[g]?=some (.cells cur 62 (0,0)):=by
  rw[←hw2,←hg1];simp only[World.setRow];rw[Ydi,Yab hNg]
 have hat: ∀ j v,(lines (L.drop i))[j]?=some v→w2.drew.cell? ((⟨g,i*3,none⟩:Addr).add j)=some v:=fun j v hj=>by
  rw[Zag];show w2.cell? _=_;rw[cell_of_row w2 g _ cur _ (0,0) hg2];have hjl:j<(n-i)*3:=by rw[←hcl];exact(Ybb.1 hj).1
  have h1:(lines L)[i*3+j]?=some v:=by
   rw[Zhk L i,Ybm (by rw[hct];omega),hct,Yed]
   exact hj
  rw[←ht,Ycv]at h1;split at h1
  · simpa using h1
  · cases h1
 obtain⟨w3,hw3⟩: ∃ w3,w2.drew.setRow N (segs (segs ROW.toList (i*3) (lines V)) ((i+m)*3) (lines (L.drop i))).toArray=w3:=⟨_,rfl⟩
 have hcpB: ∀ ty dc sc,(Builtin.copy_ #[26,26] ty #[.slice (some ⟨N,(i+m)*3,none⟩) (n+m-(i+m)) dc, .slice (some ⟨g,i*3,none⟩) (n-i) sc]).run prog w2.drew= .ok (goInt ((n-i:Nat):Int)) w3:=fun ty dc sc=>by
  have:=Zdc 3 w2.drew 26 26 ty 62 N ((i+m)*3) (n+m-(i+m)) dc ⟨g,i*3,none⟩ (n-i) sc (segs ROW.toList (i*3) (lines V)).toArray 62 (lines (L.drop i)) underlying26 Zia hh2 (by rw[hcl];congr 1;simp only[Ydv];split<;>omega) hat (by rw[hcl,Yds,hl1];omega) (Zjz _)
  rw[this,show Nat.min (n-i) (n+m-(i+m))=n-i by simp only[Ydv];split<;>omega,←hw3]
  rfl
 have hB1:Below w0.heap.size w0 W1:=by rw[←hW1];exact hb.drew.alloc hb.drew.size _
 have hN0:w0.heap.size≤N:=by rw[←hN];exact hb.size
 have hB:Hid (Below w0.heap.size w0 w3):=by
  show Below _ _ _;rw[←hw3];refine Zdu (Below.drew ?_) hN0 _;rw[←hw2];exact Zdu hB1 hN0 _
 have hO:Hid (w3.ownsRow w0.heap.size 62 3 (.slice (some ⟨N,0,none⟩) (n+m) G) (n+m) (lines (insMB L i V))):=by
  refine⟨by rw[Zae,Zlm,hn,hvl], .inr ⟨N,G,(segs (segs ROW.toList (i*3) (lines V)) ((i+m)*3) (lines (L.drop i))).toArray,rfl,hN0, ?_,hGn,hGm, ?_, ?_⟩⟩
  · rw[←hw3];exact setRow_heap w2.drew N _ _ _ _ hh2
  · rw[Yds,Zid (by rw[hl1,hcl];omega),hl1]
  · show(segs _ _ _).take _=_;rw[←hn,←hvl];exact Zafh L V i (by omega) ROW.toList hRt
 rw[hN]at hrz;have hz1: ¬ ((m:Int)=0):=by omega
 have hz2: ¬ ((i:Int)=(n:Int)):=by omega
 have hw1':IntKind.i64.wrap ((i:Int)+(m:Int))=(i:Int)+(m:Int):=by rw[IntKind.wrap_i64];omega
 have hz3:(c:Int)<(n:Int)+(m:Int):=by omega
 have hb1:(0:Int)≤(i:Int)+(m:Int):=by omega
 have hin:i≤n:=by omega
 have htn:((i:Int)+(m:Int)).toNat=i+m:=by omega
 have hG63:G≤9223372036854775807:=by unfold maxLen at hGm;omega
 have hGi: ¬ (G=i):=by omega
 have hGim: ¬ (G=i+m):=by omega
 have hci: ¬ (c=i):=by omega
 have hb3:(i:Int)≤(n:Int):=by omega
 clear hkk hik hold hROW hG hRl hRs hRt hW1 hN hh1 hBw hg1 hw2 hl1 hh2 hg2 hat hw3 hB1 hN0 hcl hct hcur hpre hgw ht hh hv hb hsz hVl;have mixed:prog.follows .mixedOrders=true:=by kernel_rfl
 go_enter func94,ntmps94;go_wp2_with (first|(at_builtin;refine Lib.wpList_append_run _ rfl _ _ _ _ rfl _ _ rfl rfl _ _ (hrz _) ?_)|(at_builtin;refine wpList_copy_runI _ rfl _ _ 26 26 rfl _ _ rfl rfl (hcpA _ _) ?_))
 go_region_law_o (refine step_copy_runI rfl _ _ 26 26 rfl _ _ (by simp[Act.eval,Act.put]) (by simp[Act.eval,Act.put]) (hcpB _ _ _) ?_)
 go_wp2;go_ret;exact⟨⟨_,rfl,hO.out⟩,hB.out⟩
theorem Zaef (w0 w:World) (v:Value) (n vb vo m vc:Nat) (L V:List Line) (hb:Below w0.heap.size w0 w) (hown:w.ownsRow w0.heap.size 62 3 v n (lines L)) (hn:L.length=n) (hn9:n≤1000000) (hvl:V.length=m) (hm:0<m) (hm9:m≤1000000)
 (hv:Rd w 3 (some ⟨vb,vo,none⟩) m (lines V)):
 Calls prog 94 #[v, .int .i64 n, .slice (some ⟨vb,vo,none⟩) m vc] w fun e w'=>
  (∃ v',e= .returned v'∧w'.ownsRow w0.heap.size 62 3 v' (n+m) (lines (insMB L n V)))∧Below w0.heap.size w0 w':=by
 obtain⟨i0,hii,hz0,hz1,hz2⟩:=info_parts Zii;have HO:=Zhd hown;have HB:=Zhd hb;have HV:=Zhd (Zuc hv)
 have HIL:Hid (lines (insMB L n V)=lines L++lines V):=by
  show _=_;rw[Zqn,←hn,Ybw,Ydo];show lines L++lines V++ []=_;rw[Ybg]
 have hVl:(lines V).length=m*3:=by rw[Zae,hvl]
 have hN:(n+m)*32≤140737488355328:=by omega
 have hM:n+m≤maxLen:=by unfold maxLen;omega
 have hm1: ¬ ((m:Int)=0):=by omega
 have HF:=hown.2;have HLT:Hid (∀ q,v.ownBlock=some q→w0.heap.size≤q):=fun q hq=>(hown.lt q hq).1
 have HVc:=Zhd (Zjz V);clear hown hb hv hn;rcases HF with⟨rfl,rfl⟩|⟨g,c,cur,rfl,-,-,hnc,hcm,-,-⟩
 · go_enter func94,ntmps94;go_wp2_with (at_builtin;refine wpList_append_own _ rfl _ _ 26 rfl w0.heap.size 62 i0 _ 3 32 underlying26 hii hz0 hz1 hz2 rfl (by decide) _ 0 (lines L) rfl HO.out ⟨vb,vo,none⟩ m vc (lines V) rfl hVl HV.out HVc.out hM hN HB.out.size ?_;intro v' w' hown' hg _)
   go_ret;exact⟨⟨_,rfl,by rw[HIL.out];exact hown'⟩,HB.out.grown hg HB.out.size fun q hq=>HLT.out q hq⟩
 · have hc63:c≤9223372036854775807:=by unfold maxLen at hcm;omega
   go_enter func94,ntmps94;go_wp2_with (at_builtin;refine wpList_append_own _ rfl _ _ 26 rfl w0.heap.size 62 i0 _ 3 32 underlying26 hii hz0 hz1 hz2 rfl (by decide) _ n (lines L) rfl HO.out ⟨vb,vo,none⟩ m vc (lines V) rfl hVl HV.out HVc.out hM hN HB.out.size ?_;intro v' w' hown' hg _)
   all_goals
    go_ret;exact⟨⟨_,rfl,by rw[HIL.out];exact hown'⟩,HB.out.grown hg HB.out.size fun q hq=>HLT.out q hq⟩
theorem Zaee (w0 w:World) (v:Value) (i vb vo vc:Nat) (L V:List Line) (hb:Below w0.heap.size w0 w) (hown:w.ownsRow w0.heap.size 62 3 v L.length (lines L)) (hi:i≤L.length) (hn9:L.length≤1000000) (hm:0<V.length) (hm9:V.length≤1000000)
 (hv:Rd w 3 (some ⟨vb,vo,none⟩) V.length (lines V)) (hne:v.ownBlock≠some vb):
 Calls prog 94 #[v, .int .i64 i, .slice (some ⟨vb,vo,none⟩) V.length vc] w fun e w'=>
  (∃ v',e= .returned v'∧w'.ownsRow w0.heap.size 62 3 v' (insMB L i V).length (lines (insMB L i V)))∧Below w0.heap.size w0 w':=by
 rw[Zlm];by_cases hie:i=L.length
 · subst hie;exact Zaef w0 w v _ vb vo _ vc L V hb hown rfl hn9 rfl hm hm9 hv
 · rcases hown.2 with⟨rfl,h0⟩|⟨g,c,cur,rfl,hg,hh,hnc,hcm,hsz,ht⟩
   · omega
   · have hne2:vb≠g:=fun e=>hne (by rw[e];rfl)
     by_cases hr:L.length+V.length≤c
     · exact Zabk w0 w g _ c i vb vo _ vc cur L V hb hg hh rfl rfl hm (by omega) hr hcm hsz ht hv hne2
     · exact Zabj w0 w g _ c i vb vo _ vc cur L V hb hh rfl hn9 rfl hm hm9 (by omega) hnc (by omega) hsz ht hv
theorem Zaeg (q n c i:Nat) (Av:Option Addr) (vc:Nat) (w:World) (hi:i≤n) (hnc:n≤c) (hcm:c≤maxLen):
 Calls prog 94 #[.slice (some ⟨q,0,none⟩) n c, .int .i64 i, .slice Av 0 vc] w fun e w'=>e= .returned (.slice (some ⟨q,0,none⟩) n c)∧w'=w:=by
 have hc63:c≤9223372036854775807:=by unfold maxLen at hcm;omega
 by_cases hcc:c=i
 · subst hcc;obtain rfl:n=c:=by omega
   go_enter func94,ntmps94;go_wp2;go_ret;exact⟨rfl,rfl⟩
 · go_enter func94,ntmps94;go_wp2;go_ret;exact⟨rfl,rfl⟩
open Sch
def Zzv (L:List Line) (P:List ByteArray) (w:World) (e:Ending) (w':World):Prop:=
 Zkm L P w e w'∧((addB L P).2=0→ ∃ v,e= .returned (.tuple #[v, .int .i64 0])∧w'.ownsRow w.heap.size 62 3 v (addB L P).1.length (lines (addB L P).1))
theorem Zbbc (A:Option Addr) (cap:Nat) (L:List Line) (Ap:Option Addr) (cp:Nat) (P:List ByteArray) (w:World) (hR:Rd w 3 A L.length (lines L)) (hcap:L.length≤cap) (hc:cap≤maxLen) (hnil:A=none→cap=0) (hr:Zab L=true) (hP:Rd w 1 Ap P.length (sv P)) (hcp:P.length≤cp) (hc2:cp≤maxLen) (hs:Zfj P=true) (h16:P.length≤16):
 Calls prog 58 #[.slice A L.length cap, .slice Ap P.length cp] w (Zzv L P w):=by
 have HRi:=Zbm A cap L w hR hcap hc;rw[hr]at HRi;have HRg:=Zhd HRi
 have HSo:Hid (∀ W,Below w.heap.size w W→Calls prog 93 #[.slice Ap P.length cp] W fun e w'=>e= .returned (.bool true)∧w'=W):=fun W hb=>by
  have:=Zmx Ap cp P W (hP.below hb) (by omega)
  rwa [hs]at this
 have hc63:cp≤9223372036854775807:=by unfold maxLen at hc2;omega
 have HL0:Hid (Lr w (.slice A L.length cap) L):=⟨A,cap,rfl,hcap,hc,hR,hnil⟩;have HP:=Zhd hP;have h200:=Zau hr
 have HX:Hid (addB L P=match Zeq P P.length 0 L with|some M=>(M,0)|none=>(L,5)):=by
  show _=_;unfold addB;rw[Yab (by rw[hr,hs];simp),Yab (by omega)]
  cases Zeq P P.length 0 L<;>rfl
 have HRR:=Zhd hr;have HSS:=Zhd hs;clear HRi hR hP hr hs;go_enter func58,ntmps58;go_wp2_with fail;refine HRg.out.mono ?_;rintro e w1 ⟨rfl,hb1⟩;have HB1:=Zhd hb1;clear hb1 HRg;go_wp2_with fail;refine(HSo.out w1 HB1.out).mono ?_;rintro e w2 ⟨rfl,rfl⟩;clear HSo;go_wp2_with fail;go_loopw [6,29] (fun v vi wr=> ∃ (d:Nat) (M:List Line),d≤P.length∧vi= .int .i64 d∧Hid (Lr wr v M)∧Hid (Zab M=true)∧Hid (d=0∨P.take d∈Zad M)∧Hid (Zeq P P.length 0 L=Zeq P (P.length-d) d M)∧Hid (Below w.heap.size w wr)) (fun _ vi _=>P.length-(intOf vi).toNat)
 case atStart=>exact⟨0,L,Yas _,rfl,HL0.out.below HB1.out,HRR.out, .inl rfl,rfl,HB1.out⟩
 case round=>
  obtain⟨d,M,hd,rfl,HM,HMr,HU,HQ,HB⟩:=hrel;obtain⟨Am,cm,rfl,hcm1,hcm2,hrdm,hnilm⟩:=HM.out;have HRm:=Zhd hrdm;have HNm:=Zhd hnilm;have hm200:=Zau HMr.out;clear hrdm hnilm;by_cases hlt:d<P.length
  · obtain⟨B,O,rfl,hab,hadd,hx⟩:=(HP.out.below HB.out).strAt hlt;have hw40:=Zse HSS.out hlt;have hwa:P[d]=wAt P d:=by unfold wAt;rw[Yar,Yaj hlt];rfl
    rw[hwa]at hx;obtain⟨f,hf⟩: ∃ f,P.length-d=f+1:=⟨P.length-d-1,by omega⟩
    have hf2:f=P.length-(d+1):=by omega
    have hq:=HQ.out;rw[hf]at hq
    have HFi:=Zhd (fun W (hb:Below wr.heap.size wr W)=>Zca Am cm M (some ⟨B,O,none⟩) cp (P.take (d+1)) W (HRm.out.below hb) hcm1 hcm2 HMr.out (by
     have:=Zgv ((HP.out.below HB.out).below hb) (n:=d+1) (by omega)
     rw[Yah,Yba (by omega)];exact this) (by rw[Yah];omega) hc2)
    have hl1:(P.take (d+1)).length=d+1:=by rw[Yah];omega
    rw[hl1]at HFi;have hdp:(d:Int)+1≤(P.length:Int):=by omega
    have hd0:(0:Int)≤(d:Int)+1:=by omega
    have hdc:d+1≤cp:=by omega
    have hdw:IntKind.i64.wrap ((d:Int)+1)=(d:Int)+1:=by rw[IntKind.wrap_i64];omega
    have hdt:((d:Int)+1).toNat=d+1:=by omega
    cases hfi:Zas M (P.take (d+1))with
    | some k=>
      have HQ2:Hid (Zeq P P.length 0 L=Zeq P (P.length-(d+1)) (d+1) M):=by
       show _=_;rw[hq,Zzz (by rw[hfi];rfl),hf2]
      have HU2:Hid (d+1=0∨P.take (d+1)∈Zad M):= .inr ((Zcz HMr.out).1 (by rw[hfi];rfl))
      rw[hfi]at HFi;have HFr:=Zhd (HFi.out wr (Yag _ _));clear HFi hq hfi HQ HU;go_wp2_with (go_at_call 47;refine HFr.out.mono ?_;rintro e w3 ⟨rfl,hb3⟩;have HB3:=Zhd (Zaa HB.out hb3);have HM3:=Zhd (HM.out.below hb3);clear hb3 hx);go_roundw
      case rel=>exact⟨d+1,M,by omega,by go_num,HM3,HMr,HU2,HQ2,HB3⟩
      case measure=>simp[intOf];omega
    | none=>
      rw[hfi]at HFi;have HFr:=Zhd (HFi.out wr (Yag _ _));by_cases hful:200≤M.length
      · have HQ2:Hid (addB L P=(L,5)):=by
         show _=_;rw[HX.out,hq,Zvq (by rw[hfi];rfl) hful]
        clear HFi hq hfi HQ HU;go_wp2_with (go_at_call 47;refine HFr.out.mono ?_;rintro e w3 ⟨rfl,hb3⟩;have HB3:=Zhd (Zaa HB.out hb3);clear hb3 hx);refine bodyPost_ret (results_tmp2 rfl _ _ _) rfl ?_;unfold Zzv Zkm;rw[HQ2.out];obtain⟨A0,c0,e0,g1,g2,g3,g4⟩:=HL0.out.below HB3.out;injection e0 with e1 e2 e3
        subst e1;subst e3;exact⟨⟨_,_,rfl,g1,g2,g3,g4,HB3.out⟩,fun h=>absurd (show(5:Int)=0 from h) (by decide)⟩
      · obtain⟨s1,s2,s3⟩:=Zxg HSS.out h16 HMr.out hlt HU.out hfi (by omega)
        have HQ2:Hid (Zeq P P.length 0 L=Zeq P (P.length-(d+1)) (d+1) (insB M (Zcc M (P.take d) (wAt P d)) ⟨d,wAt P d,0⟩)):=by
         show _=_;rw[hq,Zzy (by rw[hfi];rfl) hful,hf2]
        have HR2:=Zhd s1;have HU2:Hid (d+1=0∨P.take (d+1)∈Zad (insB M (Zcc M (P.take d) (wAt P d)) ⟨d,wAt P d,0⟩)):= .inr ((s3 _).2 (.inl rfl));clear HFi hq hfi HQ HU s1 s3;have hful2: ¬ (200:Int)≤(M.length:Int):=by omega
        go_wp2_with (go_at_call 47;refine HFr.out.mono ?_;rintro e w3 ⟨rfl,hb3⟩;have HB3:=Zhd (Zaa HB.out hb3);have HM3:=Zhd (HRm.out.below hb3);clear hb3 hx);have hks:=s2;generalize hkk:Zcc M (P.take d) (wAt P d)=k at *;have HCl:Hid (∀ W,Below w3.heap.size w3 W→Calls prog 68 #[.slice Am M.length cm] W (Zct W M)):=fun W hb=>Zfg Am cm M W (HM3.out.below hb) HNm.out (by omega)
        have HSp:Hid (∀ W,Below w3.heap.size w3 W→Calls prog 95 #[.slice Am M.length cm, .slice (some ⟨B,O,none⟩) d cp, .string (wAt P d)] W fun e w'=>e= .returned (.int .i64 (k:Nat))∧Below W.heap.size W w'):=fun W hb=>by
         have:=Zaii Am cm M (some ⟨B,O,none⟩) cp (P.take d) (wAt P d) W (HM3.out.below hb) hcm1 hcm2 HMr.out (by
          have:=Zgv ((HP.out.below HB3.out).below hb) (n:=d) (by omega)
          rw[Yah,Yba (by omega)];exact this) (by rw[Yah];omega) hc2
         rw[hkk,Yah,Yba (by omega)]at this
         exact this
        have HKK:=Zhd hkk;have hdi0:(0:Int)≤(d:Int):=by omega
        have hdi1:(d:Int)≤(cp:Int):=by omega
        have hdi2:d≤cp:=by omega
        clear hkk s2;go_region_held3 (fun _=>True) (trivial) (first|(go_at_call 68;refine(HCl.out _ ?hbw).mono ?_;(case hbw=>repeat (first|with_reducible exact Yag _ _|exact Yaf _|(simp;done)|with_reducible refine Below.drew ?_|with_reducible refine Below.alloc ?_ ?_ _));unfold Zct;rintro e w4 ⟨⟨v4,rfl,hv4⟩,hb4⟩;have HO4:=Zhd hv4;have HL4:=Zhd hb4;have HB34:Hid (Below w3.heap.size w3 w4):=Zaa (by repeat (first|with_reducible exact Yag _ _|exact Yaf _|(simp;done)|with_reducible refine Below.drew ?_|with_reducible refine Below.alloc ?_ ?_ _)) hb4;clear hb4 hv4)|(go_at_call 95;refine(HSp.out _ ?hbw).mono ?_;(case hbw=>repeat (first|with_reducible exact HB34.out|exact Yat HB34.out.size (by simp)|with_reducible refine Below.alloc ?_ ?_ _));rintro e w5 ⟨rfl,hb5⟩;have HL5:=Zhd hb5;clear hb5)|(go_at_call_of 94 (Value.slice (some ⟨w5.heap.size,0,none⟩) 1 1);refine(Zgx _ _ v4 k w5.heap.size 1 62 M ⟨d,wAt P d,0⟩ ((HL4.out.trans (HL5.out.mono HL4.out.size)).alloc (Yat HL4.out.size HL5.out.size) _) ((Zai HO4.out HL5.out).alloc _) hks (by omega) (heap_alloc_new w5 _) (fun h=>absurd ((Zai HO4.out HL5.out).lt _ h).2 (Nat.lt_irrefl _))).mono ?_;rintro e w6 ⟨⟨v6,rfl,hv6⟩,hb6⟩;have HM6:=Zhd (Lr.own hv6);have HB36:Hid (Below w3.heap.size w3 w6):=Zaa (by repeat (first|with_reducible exact Yag _ _|exact Yaf _|(simp;done)|with_reducible refine Below.drew ?_|with_reducible refine Below.alloc ?_ ?_ _)) hb6;clear hb6 hv6)|(go_at_call_of 94 (Value.slice (some ⟨w4.heap.size,0,none⟩) 1 1);refine(Zgx _ _ v4 k w4.heap.size 1 62 M ⟨d,wAt P d,0⟩ ((HL4.out.alloc HL4.out.size _).trans (HL5.out.mono (Yat HL4.out.size (by simp)))) (Zai (HO4.out.alloc _) HL5.out) hks (by omega) ((HL5.out.block _ (by simp)).trans (heap_alloc_new w4 _)) (fun h=>absurd (HO4.out.lt _ h).2 (Nat.lt_irrefl _))).mono ?_;rintro e w6 ⟨⟨v6,rfl,hv6⟩,hb6⟩;have HM6:=Zhd (Lr.own hv6);have HB36:Hid (Below w3.heap.size w3 w6):=Zaa (by repeat (first|with_reducible exact Yag _ _|exact Yaf _|(simp;done)|with_reducible refine Below.drew ?_|with_reducible refine Below.alloc ?_ ?_ _)) hb6;clear hb6 hv6)|(go_at_call_of 94 (Value.slice (some ⟨w3.heap.size,0,none⟩) 1 1);refine(Zgx _ _ v4 k w3.heap.size 1 62 M ⟨d,wAt P d,0⟩ (HL4.out.trans (HL5.out.mono HL4.out.size)) (Zai HO4.out HL5.out) hks (by omega) ((HL5.out.block _ (Ycc (by simp) HL4.out.size)).trans ((HL4.out.block _ (by simp)).trans (heap_alloc_new w3 _))) (fun h=>absurd (HO4.out.lt _ h).1 (by simp))).mono ?_;rintro e w6 ⟨⟨v6,rfl,hv6⟩,hb6⟩;have HM6:=Zhd (Lr.own hv6);have HB36:Hid (Below w3.heap.size w3 w6):=Zaa (by repeat (first|with_reducible exact Yag _ _|exact Yaf _|(simp;done)|with_reducible refine Below.drew ?_|with_reducible refine Below.alloc ?_ ?_ _)) hb6;clear hb6 hv6))
        all_goals
         have HB6:=Zhd (Zaa HB3.out HB36.out);clear HO4 HL4 HB34 HL5 HB36 HCl HSp;go_wp2;go_roundw
         case rel=>exact⟨d+1,_,by omega,by go_num,HM6,HR2,HU2,HQ2,HB6⟩
         case measure=>simp[intOf];omega
  · have hde:d=P.length:=by omega
    have HQ2:Hid (addB L P=(M,0)):=by
     show _=_;rw[HX.out,HQ.out,hde,Yel];rfl
    have HClo:=Zhd (Zfg Am cm M wr HRm.out HNm.out (by omega))
    clear HQ HU;go_wp2_with (go_at_call 68;refine HClo.out.mono ?_;unfold Zct;rintro e w4 ⟨⟨v4,rfl,hv4⟩,hb4⟩;have HO4:=Zhd (hv4.mono HB.out.size);have HM4:=Zhd (Lr.own hv4);have HB4:=Zhd (Zaa HB.out hb4);clear hb4 hv4);refine bodyPost_ret (results_tmp2 rfl _ _ _) rfl ?_;unfold Zzv Zkm;rw[HQ2.out];obtain⟨A0,c0,e0,g1,g2,g3,g4⟩:=HM4.out;exact⟨⟨A0,c0,by rw[←e0];rfl,g1,g2,g3,g4,HB4.out⟩,fun _=>⟨v4,rfl,HO4.out⟩⟩
end Go.Proofs.Zq
