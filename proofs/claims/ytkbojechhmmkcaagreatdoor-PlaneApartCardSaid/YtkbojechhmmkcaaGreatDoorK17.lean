import Derived.Deep.Slices
import Derived.Deep.Fields
import Derived.ChangeSame
import Derived.Test.YtkbojechhmmkcaaGreatDoorK16
set_option linter.unusedVariables false
set_option linter.unusedSimpArgs false
set_option maxHeartbeats 4000000
set_option maxRecDepth 100000
namespace Go.Proofs.Zq
open Tryz
open Go Go.RowKit Go.Sort Tre Lns
theorem Zacl (w:World):(Go.sizeOf 62).run prog w= .ok 3 w:=by
 obtain⟨i0,hii,hz0,hz1,hz2⟩:=info_parts Zii;simp[sizeOf,typeInfo,hii,hz1]
theorem Zia:(prog.info? 62).map (·.size)=some 3:=by
 obtain⟨i0,hii,hz0,hz1,hz2⟩:=info_parts Zii;rw[hii];simp[hz1]
theorem Zaei (w0 w:World) (g n c i vb vc:Nat) (cur:Array Value) (T:TypeId) (L:List Line) (l:Line) (hb:Below w0.heap.size w0 w) (hg:w0.heap.size≤g) (hh:w.heap[g]?=some (.cells cur 62 (0,0))) (hn:L.length=n) (hi:i<n) (hroom:n+1≤c) (hcm:c≤maxLen) (hsz:cur.size=c*3) (ht:cur.toList.take (n*3)=lines L)
 (hv:w.heap[vb]?=some (.cells #[.int .i64 l.depth, .string l.word, .int .i64 l.mark] T (0,0))) (hne:vb≠g):
 Calls prog 94 #[.slice (some ⟨g,0,none⟩) n c, .int .i64 i, .slice (some ⟨vb,0,none⟩) 1 vc] w fun e w'=>
  (∃ v',e= .returned v'∧w'.ownsRow w0.heap.size 62 3 v' (n+1) (lines (insB L i l)))∧Below w0.heap.size w0 w':=by
 have hc63:c≤9223372036854775807:=by unfold maxLen at hcm;omega
 have hcl:(lines (L.drop i)).length=(n-i)*3:=by rw[Zae,Yan,hn]
 have hcur:cur.toList.length=c*3:=by rw[←hsz];simp
 have hpre:cur.toList.take (i*3)=lines (L.take i):=Zsd (by omega) (by rw[hn];exact ht)
 have hat: ∀ j v,(lines (L.drop i))[j]?=some v→w.cell? ((⟨g,i*3,none⟩:Addr).add j)=some v:=fun j v hj=>by
  rw[Zag,cell_of_row w g _ cur _ (0,0) hh];have hjl:j<(n-i)*3:=by rw[←hcl];exact(Ybb.1 hj).1
  have h1:(lines L)[i*3+j]?=some v:=by
   rw[Zhk L i,Ybm (by rw[Zae,Yah,hn];omega),Zae,Yah,hn,Yba (by omega),Yed]
   exact hj
  rw[←ht,Ycv]at h1;split at h1
  · simpa using h1
  · cases h1
 have hov: ∀ lb cb,(callFunc 127 #[.slice (some ⟨vb,0,none⟩) 1 vc, .slice (some ⟨g,(i+1)*3,none⟩) lb cb]).run prog w= .ok (.value (.bool false)) w:=fun lb cb=>by
  rw[run_callFunc_extern func127 (by kernel_rfl) (by kernel_rfl) (by kernel_rfl) (e:=Extern.SlicesOverlaps.overlaps #[26,26] #[4]) (by kernel_rfl),
   Lib.run_overlaps_apart w 26 4 62 underlying26 3 Zacl ⟨vb,0,none⟩ ⟨g,(i+1)*3,none⟩ 1 vc lb cb hne T 62 3 cur.size (by simp[World.shape?,hv]) (by simp[World.shape?,hh]) (by omega) (by simp[World.frozen?,hv]) (by simp[World.frozen?,hv])]
  rfl
 obtain⟨cur1,hcur1⟩: ∃ cur1,(segs cur.toList ((i+1)*3) (lines (L.drop i))).toArray=cur1:=⟨_,rfl⟩;have hl1:cur1.toList.length=c*3:=by
  rw[←hcur1];show(segs _ _ _).length=_;rw[Zid (by rw[hcl,hcur];omega),hcur]
 obtain⟨w1,hw1⟩: ∃ w1,w.drew.setRow g cur1=w1:=⟨_,rfl⟩;have hh1:w1.heap[g]?=some (.cells cur1 62 (0,0)):=by rw[←hw1];exact setRow_heap w.drew g cur cur1 _ _ hh
 have hcp1: ∀ ty dc sc,(Builtin.copy_ #[26,26] ty #[.slice (some ⟨g,(i+1)*3,none⟩) (n-i) dc, .slice (some ⟨g,i*3,none⟩) (n+1-i) sc]).run prog w.drew= .ok (goInt ((n-i:Nat):Int)) w1:=fun ty dc sc=>by
  have:=Zdc 3 w.drew 26 26 ty 62 g ((i+1)*3) (n-i) dc ⟨g,i*3,none⟩ (n+1-i) sc cur 62 (lines (L.drop i)) underlying26 Zia hh (by rw[hcl];congr 1;simp only[Ydv];split<;>omega) hat (by rw[hcl,hsz];omega) (Zjz _)
  rw[this,show Nat.min (n+1-i) (n-i)=n-i by simp only[Ydv];split<;>omega,←hw1,←hcur1]
  rfl
 have hvb1:w1.heap[vb]?=some (.cells #[.int .i64 l.depth, .string l.word, .int .i64 l.mark] T (0,0)):=by
  rw[←hw1,←hv];simp only[World.setRow];rw[Ydi,Yab (fun e=>hne e.symm)]
  rfl
 have hcp2: ∀ ty dc,(Builtin.copy_ #[26,26] ty #[.slice (some ⟨g,i*3,none⟩) (n+1-i) dc, .slice (some ⟨vb,0,none⟩) 1 vc]).run prog w1= .ok (goInt 1) (w1.setRow g (segs cur1.toList (i*3) l.cells).toArray):=fun ty dc=>by
  have:=Zdc 3 w1 26 26 ty 62 g (i*3) (n+1-i) dc ⟨vb,0,none⟩ 1 vc cur1 62 l.cells underlying26 Zia hh1 (by rw[show Nat.min 1 (n+1-i)=1 by simp only[Ydv];split<;>omega];rfl)
   (fun j v hj=>by rw[Zag,cell_of_row w1 vb _ _ _ (0,0) hvb1,Ybi,Ycw];exact hj) (by rw[←Yau,hl1];show i*3+3≤_;omega) (cells_one _)
  rw[this,show Nat.min 1 (n+1-i)=1 by simp only[Ydv];split<;>omega]
  rfl
 obtain⟨w2,hw2⟩: ∃ w2,w1.setRow g (segs cur1.toList (i*3) l.cells).toArray=w2:=⟨_,rfl⟩;rw[hw2]at hcp2
 have hB:Hid (Below w0.heap.size w0 w2):=by
  show Below _ _ _;rw[←hw2,←hw1];exact Zdu (Zdu hb.drew hg _) hg _
 have hO:Hid (w2.ownsRow w0.heap.size 62 3 (.slice (some ⟨g,0,none⟩) (n+1) c) (n+1) (lines (insB L i l))):=by
  refine⟨by rw[Zae,Zjy,hn], .inr ⟨g,c,(segs cur1.toList (i*3) l.cells).toArray,rfl,hg, ?_,hroom,hcm, ?_, ?_⟩⟩
  · rw[←hw2];exact setRow_heap w1 g cur1 _ _ _ hh1
  · rw[←Yau];show(segs _ _ _).length=_;rw[Zid (by rw[hl1];show i*3+3≤_;omega),hl1]
  · show(segs cur1.toList (i*3) l.cells).take _=_;rw[←hcur1,←hn];exact Zalr L l i (by omega) cur.toList hpre (by rw[hcur,hn];omega)
 have hz2: ¬ ((i:Int)=(n:Int)):=by omega
 have hw1':IntKind.i64.wrap ((i:Int)+1)=(i:Int)+1:=by rw[IntKind.wrap_i64];omega
 have hz3: ¬ ((c:Int)<(n:Int)+1):=by omega
 have hb1:(0:Int)≤(i:Int)+1:=by omega
 have hin:i≤n:=by omega
 have hb2: ¬ (c=i+1):=by omega
 have hb3:(i:Int)≤(n:Int)+1:=by omega
 have hb4: ¬ (c=i):=by omega
 clear hcl hcur hpre hat hcur1 hl1 hw1 hh1 hvb1 hw2 ht hh hv hb hsz;have mixed:prog.follows .mixedOrders=true:=by kernel_rfl
 go_enter func94,ntmps94;go_wp2_with (simp only[hov]);go_region_law_o (refine step_copy_runI rfl _ _ 26 26 rfl _ _ (by simp[Act.eval,Act.put]) (by simp[Act.eval,Act.put]) (hcp1 _ _ _) ?_)
 go_wp2_with (at_builtin;refine wpList_copy_runI _ rfl _ _ 26 26 rfl _ _ rfl rfl (hcp2 _ _) ?_);go_ret;exact⟨⟨_,rfl,hO.out⟩,hB.out⟩
theorem Zmz (k:Nat):(Builtin.zeroCells (Value.agg #[.int .i64 0, .string ⟨#[]⟩, .int .i64 0]).cells k).size=k*3:=by
 simp[Builtin.zeroCells,Value.cells]
theorem Zaeh (w0 w:World) (g n c i vb vc:Nat) (cur:Array Value) (T:TypeId) (L:List Line) (l:Line) (hb:Below w0.heap.size w0 w) (hh:w.heap[g]?=some (.cells cur 62 (0,0))) (hn:L.length=n) (hn9:n≤1000000) (hi:i<n) (hnc:n≤c) (hroom:c<n+1) (hsz:cur.size=c*3) (ht:cur.toList.take (n*3)=lines L)
 (hv:w.heap[vb]?=some (.cells #[.int .i64 l.depth, .string l.word, .int .i64 l.mark] T (0,0))):
 Calls prog 94 #[.slice (some ⟨g,0,none⟩) n c, .int .i64 i, .slice (some ⟨vb,0,none⟩) 1 vc] w fun e w'=>
  (∃ v',e= .returned v'∧w'.ownsRow w0.heap.size 62 3 v' (n+1) (lines (insB L i l)))∧Below w0.heap.size w0 w':=by
 obtain⟨i0,hii,hz0,hzs,hzb⟩:=info_parts Zii;have hcl:(lines (L.drop i)).length=(n-i)*3:=by rw[Zae,Yan,hn]
 have hct:(lines (L.take i)).length=i*3:=by rw[Zae,Yah,hn,Yba (by omega)]
 have hcur:cur.toList.length=c*3:=by rw[←hsz];simp
 have hpre:cur.toList.take (i*3)=lines (L.take i):=Zsd (by omega) (by rw[hn];exact ht)
 have hgw:g<w.heap.size:=(Ybf.1 hh).1;have hvw:vb<w.heap.size:=(Ybf.1 hv).1
 have hold:(Builtin.firstCells i0.size i (.slice (some ⟨g,0,none⟩) i c)).run prog w.drew= .ok (lines (L.take i)).toArray w.drew:=by
  rw[hzs]
  exact run_firstCells_some w.drew 3 i ⟨g,0,none⟩ i c (lines (L.take i)) hct (fun j v hj=>by
   rw[Zag,Ybi];show w.cell? _=_;rw[cell_of_row w g _ cur _ (0,0) hh];rw[←hpre,Ycv]at hj;split at hj
   · simpa using hj
   · cases hj)
 have hkk:(n:Int)+1-(i:Int)=((n+1-i:Nat):Int):=by omega
 have hik:i+(n+1-i)=n+1:=by omega
 have hrz: ∀ ty,(Builtin.append_ #[26,3] ty #[.slice (some ⟨g,0,none⟩) i c, .int .i64 ((n:Int)+1-(i:Int))]).run prog w=
  .ok (.slice (some ⟨w.heap.size,0,none⟩) (n+1) (grownCap w (n+1) c 62)) (w.drew.alloc (.cells ((lines (L.take i)).toArray++Builtin.zeroCells (Value.agg #[.int .i64 0, .string ⟨#[]⟩, .int .i64 0]).cells (n+1-i)++Builtin.zeroCells (Value.agg #[.int .i64 0, .string ⟨#[]⟩, .int .i64 0]).cells (grownCap w (n+1) c 62-(n+1))) 62)):=fun ty=>by
  have h:=Lib.run_append_grow_zeros w 26 3 ty 62 i0 _ .i64 .i64 underlying26 underlying3 hii hz0 (some ⟨g,0,none⟩) i c (lines (L.take i)) hold (n+1-i) (by omega) (by omega) (by omega) (by omega) (by rw[hzb];omega) (by rw[hzb,hik];exact growslice_fits hroom (by omega))
  rw[hik]at h;rw[hkk];exact h
 obtain⟨G,hG⟩: ∃ G,G=grownCap w (n+1) c 62:=⟨_,rfl⟩;have hGn:n+1≤G:=by rw[hG];exact grownCap_ge w _ _ _
 have hGm:G≤maxLen:=by rw[hG];exact grownCap_le_maxLen w (n+1) c 62 (by unfold maxLen;omega)
 rw[←hG]at hrz;obtain⟨ROW,hROW⟩: ∃ ROW:Array Value,ROW=(lines (L.take i)).toArray++Builtin.zeroCells (Value.agg #[.int .i64 0, .string ⟨#[]⟩, .int .i64 0]).cells (n+1-i)++Builtin.zeroCells (Value.agg #[.int .i64 0, .string ⟨#[]⟩, .int .i64 0]).cells (G-(n+1)):=⟨_,rfl⟩;rw[←hROW]at hrz;have hRs:ROW.size=G*3:=by
  rw[hROW,Array.size_append,Array.size_append,Zmz,Zmz,Yds,hct];omega
 have hRl:ROW.toList.length=G*3:=by rw[←hRs];simp
 have hRt:ROW.toList.take (i*3)=lines (L.take i):=by
  rw[hROW,Array.toList_append,Array.toList_append,Ybc,←hct];exact List.take_left
 obtain⟨W1,hW1⟩: ∃ W1,w.drew.alloc (.cells ROW 62)=W1:=⟨_,rfl⟩;rw[hW1]at hrz;obtain⟨N,hN⟩: ∃ N,w.heap.size=N:=⟨_,rfl⟩;have hh1:W1.heap[N]?=some (.cells ROW 62 (0,0)):=by rw[←hW1,←hN];exact heap_alloc_new w.drew _
 have hvb1:W1.heap[vb]?=some (.cells #[.int .i64 l.depth, .string l.word, .int .i64 l.mark] T (0,0)):=by
  rw[←hW1,heap_alloc_old (r:=vb) w.drew _ hvw];exact hv
 have hg1:W1.heap[g]?=some (.cells cur 62 (0,0)):=by
  rw[←hW1,heap_alloc_old (r:=g) w.drew _ hgw];exact hh
 obtain⟨w2,hw2⟩: ∃ w2,W1.setRow N (segs ROW.toList (i*3) l.cells).toArray=w2:=⟨_,rfl⟩;have hl1:(segs ROW.toList (i*3) l.cells).length=G*3:=by rw[Zid (by rw[hRl];show i*3+3≤_;omega),hRl]
 have hcpA: ∀ ty dc,(Builtin.copy_ #[26,26] ty #[.slice (some ⟨N,i*3,none⟩) (n+1-i) dc, .slice (some ⟨vb,0,none⟩) 1 vc]).run prog W1= .ok (goInt 1) w2:=fun ty dc=>by
  have:=Zdc 3 W1 26 26 ty 62 N (i*3) (n+1-i) dc ⟨vb,0,none⟩ 1 vc ROW 62 l.cells underlying26 Zia hh1 (by rw[show Nat.min 1 (n+1-i)=1 by simp only[Ydv];split<;>omega];rfl)
   (fun j v hj=>by rw[Zag,cell_of_row W1 vb _ _ _ (0,0) hvb1,Ybi,Ycw];exact hj) (by rw[hRs];show i*3+3≤_;omega) (cells_one _)
  rw[this,show Nat.min 1 (n+1-i)=1 by simp only[Ydv];split<;>omega,←hw2]
  rfl
 have hNg:N≠g:=by omega
 have hh2:w2.heap[N]?=some (.cells (segs ROW.toList (i*3) l.cells).toArray 62 (0,0)):=by rw[←hw2];exact setRow_heap W1 N ROW _ _ _ hh1
 have hg2:w2.heap[g]?=some (.cells cur 62 (0,0)):=by
  rw[←hw2,←hg1];simp only[World.setRow];rw[Ydi,Yab hNg]
 have hat: ∀ j v,(lines (L.drop i))[j]?=some v→w2.drew.cell? ((⟨g,i*3,none⟩:Addr).add j)=some v:=fun j v hj=>by
  rw[Zag];show w2.cell? _=_;rw[cell_of_row w2 g _ cur _ (0,0) hg2];have hjl:j<(n-i)*3:=by rw[←hcl];exact(Ybb.1 hj).1
  have h1:(lines L)[i*3+j]?=some v:=by
   rw[Zhk L i,Ybm (by rw[hct];omega),hct,Yed]
   exact hj
  rw[←ht,Ycv]at h1;split at h1
  · simpa using h1
  · cases h1
 obtain⟨w3,hw3⟩: ∃ w3,w2.drew.setRow N (segs (segs ROW.toList (i*3) l.cells) ((i+1)*3) (lines (L.drop i))).toArray=w3:=⟨_,rfl⟩
 have hcpB: ∀ ty dc sc,(Builtin.copy_ #[26,26] ty #[.slice (some ⟨N,(i+1)*3,none⟩) (n-i) dc, .slice (some ⟨g,i*3,none⟩) (n-i) sc]).run prog w2.drew= .ok (goInt ((n-i:Nat):Int)) w3:=fun ty dc sc=>by
  have:=Zdc 3 w2.drew 26 26 ty 62 N ((i+1)*3) (n-i) dc ⟨g,i*3,none⟩ (n-i) sc (segs ROW.toList (i*3) l.cells).toArray 62 (lines (L.drop i)) underlying26 Zia hh2 (by rw[hcl];congr 1;simp) hat (by rw[hcl,Yds,hl1];omega) (Zjz _)
  rw[this,show Nat.min (n-i) (n-i)=n-i by simp,←hw3]
  rfl
 have hB1:Below w0.heap.size w0 W1:=by rw[←hW1];exact hb.drew.alloc hb.drew.size _
 have hN0:w0.heap.size≤N:=by rw[←hN];exact hb.size
 have hB:Hid (Below w0.heap.size w0 w3):=by
  show Below _ _ _;rw[←hw3];refine Zdu (Below.drew ?_) hN0 _;rw[←hw2];exact Zdu hB1 hN0 _
 have hO:Hid (w3.ownsRow w0.heap.size 62 3 (.slice (some ⟨N,0,none⟩) (n+1) G) (n+1) (lines (insB L i l))):=by
  refine⟨by rw[Zae,Zjy,hn], .inr ⟨N,G,(segs (segs ROW.toList (i*3) l.cells) ((i+1)*3) (lines (L.drop i))).toArray,rfl,hN0, ?_,hGn,hGm, ?_, ?_⟩⟩
  · rw[←hw3];exact setRow_heap w2.drew N _ _ _ _ hh2
  · rw[Yds,Zid (by rw[hl1,hcl];omega),hl1]
  · show(segs _ _ _).take _=_;rw[←hn];exact Zalq L l i (by omega) ROW.toList hRt
 rw[hN]at hrz;have hz2: ¬ ((i:Int)=(n:Int)):=by omega
 have hw1':IntKind.i64.wrap ((i:Int)+1)=(i:Int)+1:=by rw[IntKind.wrap_i64];omega
 have hz3:(c:Int)<(n:Int)+1:=by omega
 have hb1:(0:Int)≤(i:Int)+1:=by omega
 have hin:i≤n:=by omega
 have hG63:G≤9223372036854775807:=by unfold maxLen at hGm;omega
 have hGi: ¬ (G=i):=by omega
 have hGim: ¬ (G=i+1):=by omega
 have hci: ¬ (c=i):=by omega
 have hb3:(i:Int)≤(n:Int):=by omega
 clear hkk hik hold hROW hG hRl hRs hRt hW1 hN hh1 hvb1 hg1 hw2 hl1 hh2 hg2 hat hw3 hB1 hN0 hcl hct hcur hpre hgw hvw ht hh hv hb hsz;have mixed:prog.follows .mixedOrders=true:=by kernel_rfl
 go_enter func94,ntmps94;go_wp2_with (first|(at_builtin;refine Lib.wpList_append_run _ rfl _ _ _ _ rfl _ _ rfl rfl _ _ (hrz _) ?_)|(at_builtin;refine wpList_copy_runI _ rfl _ _ 26 26 rfl _ _ rfl rfl (hcpA _ _) ?_))
 go_region_law_o (refine step_copy_runI rfl _ _ 26 26 rfl _ _ (by simp[Act.eval,Act.put]) (by simp[Act.eval,Act.put]) (hcpB _ _ _) ?_)
 go_wp2;go_ret;exact⟨⟨_,rfl,hO.out⟩,hB.out⟩
theorem Zaxf (L:List Line) (l:Line):lines (insB L L.length l)=lines L++l.cells:=by
 rw[Ztp,Ybw,Ydo];show lines L++l.cells++ []=_;rw[Ybg]
theorem Zako (w0 w:World) (v:Value) (n vb vc:Nat) (T:TypeId) (L:List Line) (l:Line) (hb:Below w0.heap.size w0 w) (hown:w.ownsRow w0.heap.size 62 3 v n (lines L)) (hn:L.length=n) (hn9:n≤1000000)
 (hv:w.heap[vb]?=some (.cells #[.int .i64 l.depth, .string l.word, .int .i64 l.mark] T (0,0))):
 Calls prog 94 #[v, .int .i64 n, .slice (some ⟨vb,0,none⟩) 1 vc] w fun e w'=>
  (∃ v',e= .returned v'∧w'.ownsRow w0.heap.size 62 3 v' (n+1) (lines (insB L n l)))∧Below w0.heap.size w0 w':=by
 obtain⟨i0,hii,hz0,hz1,hz2⟩:=info_parts Zii;have HO:=Zhd hown;have HB:=Zhd hb
 have HV:Hid (∀ j u,l.cells[j]?=some u→w.cell? ((⟨vb,0,none⟩:Addr).add j)=some u):=fun j u hj=>by
  rw[Zag,cell_of_row w vb _ _ _ (0,0) hv,Ybi,Ycw];exact hj
 have HIL:Hid (lines (insB L n l)=lines L++l.cells):=by show _=_;rw[←hn];exact Zaxf L l
 have hN:(n+1)*32≤140737488355328:=by omega
 have hM:n+1≤maxLen:=by unfold maxLen;omega
 have HF:=hown.2;have HLT:Hid (∀ q,v.ownBlock=some q→w0.heap.size≤q):=fun q hq=>(hown.lt q hq).1
 clear hown hb hv hn;rcases HF with⟨rfl,rfl⟩|⟨g,c,cur,rfl,-,-,hnc,hcm,-,-⟩
 · go_enter func94,ntmps94;go_wp2_with (at_builtin;refine wpList_append_own _ rfl _ _ 26 rfl w0.heap.size 62 i0 _ 3 32 underlying26 hii hz0 hz1 hz2 rfl (by decide) _ 0 (lines L) rfl HO.out ⟨vb,0,none⟩ 1 vc l.cells rfl rfl HV.out (cells_one _) hM hN HB.out.size ?_;intro v' w' hown' hg _)
   go_ret;exact⟨⟨_,rfl,by rw[HIL.out];exact hown'⟩,HB.out.grown hg HB.out.size fun q hq=>HLT.out q hq⟩
 · have hc63:c≤9223372036854775807:=by unfold maxLen at hcm;omega
   go_enter func94,ntmps94;go_wp2_with (at_builtin;refine wpList_append_own _ rfl _ _ 26 rfl w0.heap.size 62 i0 _ 3 32 underlying26 hii hz0 hz1 hz2 rfl (by decide) _ n (lines L) rfl HO.out ⟨vb,0,none⟩ 1 vc l.cells rfl rfl HV.out (cells_one _) hM hN HB.out.size ?_;intro v' w' hown' hg _)
   all_goals
    go_ret;exact⟨⟨_,rfl,by rw[HIL.out];exact hown'⟩,HB.out.grown hg HB.out.size fun q hq=>HLT.out q hq⟩
theorem Zgx (w0 w:World) (v:Value) (i vb vc:Nat) (T:TypeId) (L:List Line) (l:Line) (hb:Below w0.heap.size w0 w) (hown:w.ownsRow w0.heap.size 62 3 v L.length (lines L)) (hi:i≤L.length) (hn9:L.length≤1000000)
 (hv:w.heap[vb]?=some (.cells #[.int .i64 l.depth, .string l.word, .int .i64 l.mark] T (0,0))) (hne:v.ownBlock≠some vb):
 Calls prog 94 #[v, .int .i64 i, .slice (some ⟨vb,0,none⟩) 1 vc] w fun e w'=>
  (∃ v',e= .returned v'∧w'.ownsRow w0.heap.size 62 3 v' (insB L i l).length (lines (insB L i l)))∧Below w0.heap.size w0 w':=by
 rw[Zjy];by_cases hie:i=L.length
 · subst hie;exact Zako w0 w v _ vb vc T L l hb hown rfl hn9 hv
 · rcases hown.2 with⟨rfl,h0⟩|⟨g,c,cur,rfl,hg,hh,hnc,hcm,hsz,ht⟩
   · omega
   · have hne2:vb≠g:=fun e=>hne (by rw[e];rfl)
     by_cases hr:L.length+1≤c
     · exact Zaei w0 w g _ c i vb vc cur T L l hb hg hh rfl (by omega) hr hcm hsz ht hv hne2
     · exact Zaeh w0 w g _ c i vb vc cur T L l hb hh rfl hn9 (by omega) hnc (by omega) hsz ht hv
end Go.Proofs.Zq
namespace Lns
open Go Go.Lib Adr Mtr Tre Sch
theorem Zzz {P:List ByteArray} {f d:Nat} {out:List Line} (h:(Zas out (P.take (d+1))).isSome=true):Zeq P (f+1) d out=Zeq P f (d+1) out:=by
 unfold Zeq;rw[Yam h];cases f<;>rfl
theorem Zvq {P:List ByteArray} {f d:Nat} {out:List Line} (h:(Zas out (P.take (d+1))).isSome=false) (hl:200≤out.length):Zeq P (f+1) d out=none:=by
 unfold Zeq;rw[Yab (by rw[h];simp),Yam hl]
theorem Zzy {P:List ByteArray} {f d:Nat} {out:List Line} (h:(Zas out (P.take (d+1))).isSome=false) (hl: ¬ 200≤out.length):Zeq P (f+1) d out=Zeq P f (d+1) (insB out (Zcc out (P.take d) (wAt P d)) ⟨d,wAt P d,0⟩):=by
 conv=>lhs;unfold Zeq
 rw[Yab (by rw[h];simp),Yab hl]
end Lns
namespace Go.Proofs.Zq
open Tryz
open Go Go.RowKit Go.Sort Tre Sch Lns
def Zct (w:World) (M:List Line) (e:Ending) (w':World):Prop:=
 (∃ v,e= .returned v∧w'.ownsRow w.heap.size 62 3 v M.length (lines M))∧Below w.heap.size w w'
theorem Zfg (A:Option Addr) (c:Nat) (M:List Line) (w:World) (hR:Rd w 3 A M.length (lines M)) (hnil:A=none→c=0) (hb:M.length≤1000000):
 Calls prog 68 #[.slice A M.length c] w (Zct w M):=by
 obtain⟨i0,hii,hz0,hz1,hz2⟩:=info_parts Zii;cases A with
 | none=>
   have h0:M.length=0:=by
    rcases Ybj M.length with h|h
    · exact h
    · obtain⟨ad,e,-⟩:=hR.2 h;cases e
   obtain rfl:=Yap h0;obtain rfl:=hnil rfl;have heq:=fun wx:World=>Lib.run_eql_slice_nil (P:=prog) wx 26 62 none 0 0 0 0 underlying26
   go_enter func68,ntmps68;go_wp2;go_ret;exact⟨⟨_,rfl,World.ownsRow_nil _ _ _ _⟩,Yag _ _⟩
 | some ad=>
   obtain⟨wo,hwo⟩: ∃ wo,w.alloc (.cells #[] 62)=wo:=⟨_,rfl⟩;have hbo:Below w.heap.size w wo:=by rw[←hwo];exact(Yag _ _).alloc (Yaf _) _
   have hown:wo.ownsRow w.heap.size 62 3 (.slice (some ⟨w.heap.size,0,none⟩) 0 0) 0 []:=by
    rw[←hwo];have:=World.ownsRow_lit (e:=62) (size:=3) (base:=w.heap.size) w #[] 0 (Yaf _) (by unfold maxLen;omega) rfl
    simpa using this
   have HR:=Zhd (hR.below hbo);have HO:=Zhd hown;have HBo:=Zhd hbo;have heq:=fun wx:World=>Lib.run_eql_slice_nil (P:=prog) wx 26 62 (some ad) M.length c 0 0 underlying26
   have HN:Hid (0+M.length≤1000000000):=by show _≤_;omega
   clear hR hown hbo;go_enter func68,ntmps68;go_wp2_with (at_builtin;(refine Zxh rfl _ _ 26 rfl w wo 62 i0 _ 3 32 underlying26 hii hz0 hz1 hz2 rfl (by decide) (by decide) HO.out HBo.out rfl (some ad) M.length c (lines M) rfl HR.out (fun h=>by cases h) (Zjz _) HN.out ?_;intro v1 w3 hown1 hb3))
   have HO3:Hid (w3.ownsRow w.heap.size 62 3 v1 M.length (lines M)):=by show World.ownsRow _ _ _ _ _ _ _;simpa using hown1
   clear hown1;go_wp2_with fail;go_ret;exact⟨⟨_,rfl,HO3.out⟩,hb3⟩
theorem Zgv {w:World} {A:Option Addr} {P:List ByteArray} (h:Rd w 1 A P.length (sv P)) {n:Nat} (hn:n≤P.length):Rd w 1 A n (sv (P.take n)):=by
 refine⟨by rw[Zie,Yah];omega,fun h0=> ?_⟩
 obtain⟨ad,e,hb,hx⟩:=h.2 (by omega)
 refine⟨ad,e,hb,fun j u hu=>hx j u ?_⟩
 unfold sv at hu⊢;rw[List.map_take,Ycv]at hu;split at hu
 · exact hu
 · cases hu
def Zkm (L:List Line) (P:List ByteArray) (w:World) (e:Ending) (w':World):Prop:=
 ∃ A c,e= .returned (.tuple #[.slice A (addB L P).1.length c, .int .i64 (addB L P).2])∧(addB L P).1.length≤c∧c≤maxLen∧Rd w' 3 A (addB L P).1.length (lines (addB L P).1)∧(A=none→c=0)∧Below w.heap.size w w'
def Lr (w:World) (v:Value) (M:List Line):Prop:= ∃ A c,v= .slice A M.length c∧M.length≤c∧c≤maxLen∧Rd w 3 A M.length (lines M)∧(A=none→c=0)
theorem Lr.below {w w':World} {v:Value} {M:List Line} (h:Lr w v M) (hb:Below w.heap.size w w'):Lr w' v M:=by
 obtain⟨A,c,h1,h2,h3,h4,h5⟩:=h;exact⟨A,c,h1,h2,h3,h4.below hb,h5⟩
theorem Lr.own {w:World} {base:Nat} {v:Value} {M:List Line} (h:w.ownsRow base 62 3 v M.length (lines M)):Lr w v M:=by
 obtain⟨A,c,h1,h2,h3,h4,h5,-⟩:=Zcr h;exact⟨A,c,h1,h2,h3,h4,h5⟩
theorem Zbbd (A:Option Addr) (cap:Nat) (L:List Line) (Ap:Option Addr) (cp:Nat) (P:List ByteArray) (w:World) (hR:Rd w 3 A L.length (lines L)) (hcap:L.length≤cap) (hc:cap≤maxLen) (hnil:A=none→cap=0) (hr:Zab L=true) (hP:Rd w 1 Ap P.length (sv P)) (hcp:P.length≤cp) (hc2:cp≤maxLen) (hs:Zfj P=true) (h16:P.length≤16):
 Calls prog 58 #[.slice A L.length cap, .slice Ap P.length cp] w (Zkm L P w):=by
 have HRi:=Zbm A cap L w hR hcap hc;rw[hr]at HRi;have HRg:=Zhd HRi
 have HSo:Hid (∀ W,Below w.heap.size w W→Calls prog 93 #[.slice Ap P.length cp] W fun e w'=>e= .returned (.bool true)∧w'=W):=fun W hb=>by
  have:=Zmx Ap cp P W (hP.below hb) (by omega)
  rwa [hs]at this
 have hc63:cp≤9223372036854775807:=by unfold maxLen at hc2;omega
 have HL0:Hid (Lr w (.slice A L.length cap) L):=⟨A,cap,rfl,hcap,hc,hR,hnil⟩;have HP:=Zhd hP;have h200:=Zau hr
 have HX:Hid (addB L P=match Zeq P P.length 0 L with|some M=>(M,0)|none=>(L,5)):=by
  show _=_;unfold addB;rw[Yab (by rw[hr,hs];simp),Yab (by omega)]
  cases Zeq P P.length 0 L<;>rfl
 have HRR:=Zhd hr;have HSS:=Zhd hs;clear HRi hR hP hr hs;go_enter func58,ntmps58;go_wp2_with fail;refine HRg.out.mono ?_;rintro e w1 ⟨rfl,hb1⟩;have HB1:=Zhd hb1;clear hb1 HRg;go_wp2_with fail;refine(HSo.out w1 HB1.out).mono ?_;rintro e w2 ⟨rfl,rfl⟩;clear HSo;go_wp2_with fail;go_loopw [6,29] (fun v vi wr=> ∃ (d:Nat) (M:List Line),d≤P.length∧vi= .int .i64 d∧Hid (Lr wr v M)∧Hid (Zab M=true)∧Hid (d=0∨P.take d∈Zad M)∧Hid (Zeq P P.length 0 L=Zeq P (P.length-d) d M)∧Hid (Below w.heap.size w wr)) (fun _ vi _=>P.length-(intOf vi).toNat)
 case atStart=>exact⟨0,L,Yas _,rfl,HL0.out.below HB1.out,HRR.out, .inl rfl,rfl,HB1.out⟩
 case round=>
  obtain⟨d,M,hd,rfl,HM,HMr,HU,HQ,HB⟩:=hrel;obtain⟨Am,cm,rfl,hcm1,hcm2,hrdm,hnilm⟩:=HM.out;have HRm:=Zhd hrdm;have HNm:=Zhd hnilm;have hm200:=Zau HMr.out;clear hrdm hnilm;by_cases hlt:d<P.length
  · obtain⟨B,O,rfl,hab,hadd,hx⟩:=(HP.out.below HB.out).strAt hlt;have hw40:=Zse HSS.out hlt;have hwa:P[d]=wAt P d:=by unfold wAt;rw[Yar,Yaj hlt];rfl
    rw[hwa]at hx;obtain⟨f,hf⟩: ∃ f,P.length-d=f+1:=⟨P.length-d-1,by omega⟩
    have hf2:f=P.length-(d+1):=by omega
    have hq:=HQ.out;rw[hf]at hq
    have HFi:=Zhd (fun W (hb:Below wr.heap.size wr W)=>Zca Am cm M (some ⟨B,O,none⟩) cp (P.take (d+1)) W (HRm.out.below hb) hcm1 hcm2 HMr.out (by
     have:=Zgv ((HP.out.below HB.out).below hb) (n:=d+1) (by omega)
     rw[Yah,Yba (by omega)];exact this) (by rw[Yah];omega) hc2)
    have hl1:(P.take (d+1)).length=d+1:=by rw[Yah];omega
    rw[hl1]at HFi;have hdp:(d:Int)+1≤(P.length:Int):=by omega
    have hd0:(0:Int)≤(d:Int)+1:=by omega
    have hdc:d+1≤cp:=by omega
    have hdw:IntKind.i64.wrap ((d:Int)+1)=(d:Int)+1:=by rw[IntKind.wrap_i64];omega
    have hdt:((d:Int)+1).toNat=d+1:=by omega
    cases hfi:Zas M (P.take (d+1))with
    | some k=>
      have HQ2:Hid (Zeq P P.length 0 L=Zeq P (P.length-(d+1)) (d+1) M):=by
       show _=_;rw[hq,Zzz (by rw[hfi];rfl),hf2]
      have HU2:Hid (d+1=0∨P.take (d+1)∈Zad M):= .inr ((Zcz HMr.out).1 (by rw[hfi];rfl))
      rw[hfi]at HFi;have HFr:=Zhd (HFi.out wr (Yag _ _));clear HFi hq hfi HQ HU;go_wp2_with (go_at_call 47;refine HFr.out.mono ?_;rintro e w3 ⟨rfl,hb3⟩;have HB3:=Zhd (Zaa HB.out hb3);have HM3:=Zhd (HM.out.below hb3);clear hb3 hx);go_roundw
      case rel=>exact⟨d+1,M,by omega,by go_num,HM3,HMr,HU2,HQ2,HB3⟩
      case measure=>simp[intOf];omega
    | none=>
      rw[hfi]at HFi;have HFr:=Zhd (HFi.out wr (Yag _ _));by_cases hful:200≤M.length
      · have HQ2:Hid (addB L P=(L,5)):=by
         show _=_;rw[HX.out,hq,Zvq (by rw[hfi];rfl) hful]
        clear HFi hq hfi HQ HU;go_wp2_with (go_at_call 47;refine HFr.out.mono ?_;rintro e w3 ⟨rfl,hb3⟩;have HB3:=Zhd (Zaa HB.out hb3);clear hb3 hx);refine bodyPost_ret (results_tmp2 rfl _ _ _) rfl ?_;unfold Zkm;rw[HQ2.out];obtain⟨A0,c0,e0,g1,g2,g3,g4⟩:=HL0.out.below HB3.out;injection e0 with e1 e2 e3
        subst e1;subst e3;exact⟨_,_,rfl,g1,g2,g3,g4,HB3.out⟩
      · obtain⟨s1,s2,s3⟩:=Zxg HSS.out h16 HMr.out hlt HU.out hfi (by omega)
        have HQ2:Hid (Zeq P P.length 0 L=Zeq P (P.length-(d+1)) (d+1) (insB M (Zcc M (P.take d) (wAt P d)) ⟨d,wAt P d,0⟩)):=by
         show _=_;rw[hq,Zzy (by rw[hfi];rfl) hful,hf2]
        have HR2:=Zhd s1;have HU2:Hid (d+1=0∨P.take (d+1)∈Zad (insB M (Zcc M (P.take d) (wAt P d)) ⟨d,wAt P d,0⟩)):= .inr ((s3 _).2 (.inl rfl));clear HFi hq hfi HQ HU s1 s3;have hful2: ¬ (200:Int)≤(M.length:Int):=by omega
        go_wp2_with (go_at_call 47;refine HFr.out.mono ?_;rintro e w3 ⟨rfl,hb3⟩;have HB3:=Zhd (Zaa HB.out hb3);have HM3:=Zhd (HRm.out.below hb3);clear hb3 hx);have hks:=s2;generalize hkk:Zcc M (P.take d) (wAt P d)=k at *;have HCl:Hid (∀ W,Below w3.heap.size w3 W→Calls prog 68 #[.slice Am M.length cm] W (Zct W M)):=fun W hb=>Zfg Am cm M W (HM3.out.below hb) HNm.out (by omega)
        have HSp:Hid (∀ W,Below w3.heap.size w3 W→Calls prog 95 #[.slice Am M.length cm, .slice (some ⟨B,O,none⟩) d cp, .string (wAt P d)] W fun e w'=>e= .returned (.int .i64 (k:Nat))∧Below W.heap.size W w'):=fun W hb=>by
         have:=Zaii Am cm M (some ⟨B,O,none⟩) cp (P.take d) (wAt P d) W (HM3.out.below hb) hcm1 hcm2 HMr.out (by
          have:=Zgv ((HP.out.below HB3.out).below hb) (n:=d) (by omega)
          rw[Yah,Yba (by omega)];exact this) (by rw[Yah];omega) hc2
         rw[hkk,Yah,Yba (by omega)]at this
         exact this
        have HKK:=Zhd hkk;have hdi0:(0:Int)≤(d:Int):=by omega
        have hdi1:(d:Int)≤(cp:Int):=by omega
        have hdi2:d≤cp:=by omega
        clear hkk s2;go_region_held3 (fun _=>True) (trivial) (first|(go_at_call 68;refine(HCl.out _ ?hbw).mono ?_;(case hbw=>repeat (first|with_reducible exact Yag _ _|exact Yaf _|(simp;done)|with_reducible refine Below.drew ?_|with_reducible refine Below.alloc ?_ ?_ _));unfold Zct;rintro e w4 ⟨⟨v4,rfl,hv4⟩,hb4⟩;have HO4:=Zhd hv4;have HL4:=Zhd hb4;have HB34:Hid (Below w3.heap.size w3 w4):=Zaa (by repeat (first|with_reducible exact Yag _ _|exact Yaf _|(simp;done)|with_reducible refine Below.drew ?_|with_reducible refine Below.alloc ?_ ?_ _)) hb4;clear hb4 hv4)|(go_at_call 95;refine(HSp.out _ ?hbw).mono ?_;(case hbw=>repeat (first|with_reducible exact HB34.out|exact Yat HB34.out.size (by simp)|with_reducible refine Below.alloc ?_ ?_ _));rintro e w5 ⟨rfl,hb5⟩;have HL5:=Zhd hb5;clear hb5)|(go_at_call_of 94 (Value.slice (some ⟨w5.heap.size,0,none⟩) 1 1);refine(Zgx _ _ v4 k w5.heap.size 1 62 M ⟨d,wAt P d,0⟩ ((HL4.out.trans (HL5.out.mono HL4.out.size)).alloc (Yat HL4.out.size HL5.out.size) _) ((Zai HO4.out HL5.out).alloc _) hks (by omega) (heap_alloc_new w5 _) (fun h=>absurd ((Zai HO4.out HL5.out).lt _ h).2 (Nat.lt_irrefl _))).mono ?_;rintro e w6 ⟨⟨v6,rfl,hv6⟩,hb6⟩;have HM6:=Zhd (Lr.own hv6);have HB36:Hid (Below w3.heap.size w3 w6):=Zaa (by repeat (first|with_reducible exact Yag _ _|exact Yaf _|(simp;done)|with_reducible refine Below.drew ?_|with_reducible refine Below.alloc ?_ ?_ _)) hb6;clear hb6 hv6)|(go_at_call_of 94 (Value.slice (some ⟨w4.heap.size,0,none⟩) 1 1);refine(Zgx _ _ v4 k w4.heap.size 1 62 M ⟨d,wAt P d,0⟩ ((HL4.out.alloc HL4.out.size _).trans (HL5.out.mono (Yat HL4.out.size (by simp)))) (Zai (HO4.out.alloc _) HL5.out) hks (by omega) ((HL5.out.block _ (by simp)).trans (heap_alloc_new w4 _)) (fun h=>absurd (HO4.out.lt _ h).2 (Nat.lt_irrefl _))).mono ?_;rintro e w6 ⟨⟨v6,rfl,hv6⟩,hb6⟩;have HM6:=Zhd (Lr.own hv6);have HB36:Hid (Below w3.heap.size w3 w6):=Zaa (by repeat (first|with_reducible exact Yag _ _|exact Yaf _|(simp;done)|with_reducible refine Below.drew ?_|with_reducible refine Below.alloc ?_ ?_ _)) hb6;clear hb6 hv6)|(go_at_call_of 94 (Value.slice (some ⟨w3.heap.size,0,none⟩) 1 1);refine(Zgx _ _ v4 k w3.heap.size 1 62 M ⟨d,wAt P d,0⟩ (HL4.out.trans (HL5.out.mono HL4.out.size)) (Zai HO4.out HL5.out) hks (by omega) ((HL5.out.block _ (Ycc (by simp) HL4.out.size)).trans ((HL4.out.block _ (by simp)).trans (heap_alloc_new w3 _))) (fun h=>absurd (HO4.out.lt _ h).1 (by simp))).mono ?_;rintro e w6 ⟨⟨v6,rfl,hv6⟩,hb6⟩;have HM6:=Zhd (Lr.own hv6);have HB36:Hid (Below w3.heap.size w3 w6):=Zaa (by repeat (first|with_reducible exact Yag _ _|exact Yaf _|(simp;done)|with_reducible refine Below.drew ?_|with_reducible refine Below.alloc ?_ ?_ _)) hb6;clear hb6 hv6))
        all_goals
         have HB6:=Zhd (Zaa HB3.out HB36.out);clear HO4 HL4 HB34 HL5 HB36 HCl HSp;go_wp2;go_roundw
         case rel=>exact⟨d+1,_,by omega,by go_num,HM6,HR2,HU2,HQ2,HB6⟩
         case measure=>simp[intOf];omega
  · have hde:d=P.length:=by omega
    have HQ2:Hid (addB L P=(M,0)):=by
     show _=_;rw[HX.out,HQ.out,hde,Yel];rfl
    have HClo:=Zhd (Zfg Am cm M wr HRm.out HNm.out (by omega))
    clear HQ HU;go_wp2_with (go_at_call 68;refine HClo.out.mono ?_;unfold Zct;rintro e w4 ⟨⟨v4,rfl,hv4⟩,hb4⟩;have HM4:=Zhd (Lr.own hv4);have HB4:=Zhd (Zaa HB.out hb4);clear hb4 hv4);refine bodyPost_ret (results_tmp2 rfl _ _ _) rfl ?_;unfold Zkm;rw[HQ2.out];obtain⟨A0,c0,e0,g1,g2,g3,g4⟩:=HM4.out;exact⟨A0,c0,by rw[←e0];rfl,g1,g2,g3,g4,HB4.out⟩
open Go.ChangeShapes Go.WideShapes Go.Deep
section
variable {H:Type} {enc:TypeId×Value→H} {P:Program} {w:World} {base:Nat} {spare:Nat→Bool} {held:Bool}
theorem open_nilL {t e:TypeId} {n cap:Nat} {d:DataW H} {p:List MemPlace} (ht:P.underlying t=some (.slice e)) (h:DataW.Trod enc P w base spare held t (.slice none n cap) d p):cap=0:=by
 obtain⟨fuel,hf⟩:=h;rcases open_slice ht hf with⟨hcs,-⟩|⟨a,len',cap',m,n',D,Pl,hcs,-⟩
 · simp[Value.cells]at hcs;exact hcs.2
 · simp[Value.cells]at hcs
end
open Adr Mtr
theorem Zml:(prog.info? 62).map (fun i=>(i.zero,i.size,i.bytes))=some (some (.agg #[.int .i64 0, .string ⟨#[]⟩, .int .i64 0]),3,32):=by kernel_rfl
theorem Zka (L:List Line): ∀ u∈lines L,u.oneCell'=true:=by
 intro u hu;unfold lines at hu;obtain⟨l,-,h⟩:=Ydk.1 hu;exact Tre.cells_one l u h
theorem Zzb {w:World} {A:Option Addr} {L:List Line} (h:Rd w 3 A L.length (lines L)) {n:Nat} (hn:n≤L.length):Rd w 3 A n (lines (L.take n)):=by
 refine⟨by rw[Zae,Yah,Yba hn],fun h0=> ?_⟩
 obtain⟨ad,e,hb,hx⟩:=h.2 (by omega)
 refine⟨ad,e,hb,fun j u hu=>hx j u ?_⟩
 conv=>lhs;rw[←Ybk n L,Zbg]
 rw[Ych (Ybb.1 hu).1];exact hu
theorem Zub {w:World} {b o:Nat} {L:List Line} (h:Rd w 3 (some ⟨b,o,none⟩) L.length (lines L)) {n:Nat} (hn:n≤L.length):Rd w 3 (some ⟨b,o+n*3,none⟩) (L.length-n) (lines (L.drop n)):=by
 refine⟨by rw[Zae,Yan],fun h0=> ?_⟩
 obtain⟨ad,e,hb,hx⟩:=h.2 (by omega)
 injection e with e
 subst e;refine⟨_,rfl,hb,fun j u hu=> ?_⟩
 have:=hx (n*3+j) u (by
  conv=>lhs;rw[←Ybk n L,Zbg]
  rw[Ybm (by rw[Zae,Yah,Yba hn];omega),Zae,Yah,Yba hn,Yed];exact hu)
 rw[Zag]at this⊢;rw[←this,Ydn]
end Go.Proofs.Zq
