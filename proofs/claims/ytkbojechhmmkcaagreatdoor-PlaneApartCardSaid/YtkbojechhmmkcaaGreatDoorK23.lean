import Derived.Test.YtkbojechhmmkcaaGreatDoorK22
set_option linter.unusedVariables false
set_option linter.unusedSimpArgs false
set_option maxHeartbeats 4000000
set_option maxRecDepth 100000
namespace Go.Proofs
open Go.Shelf
def Tryz.sortP6_ren:Go.Shelf.Ren:=⟨fun|6=>81|15=>122|14=>121|28=>162|29=>163|20=>154|21=>155|22=>156|23=>157|24=>158|25=>159|26=>160|27=>161|46=>194|47=>195|48=>196|49=>197|50=>198|57=>222|n=>n,fun|22=>71|24=>34|25=>139|3=>3|39=>176|0=>0|53=>211|55=>213|4=>4|46=>205|45=>204|50=>90|5=>5|9=>9|66=>241|70=>245|76=>263|77=>164|n=>n,fun|n=>n⟩
theorem Tryz.sortP6:Go.Proofs.SlLaysF.n6 prog Tryz.sortP6_ren:={
 mixed:=by kernel_rfl
 f6:=⟨Tryz.f81.name,by decide,func81.trans (congrArg some (by kernel_rfl))⟩
 f14:=⟨Tryz.f121.name,by decide,func121.trans (congrArg some (by kernel_rfl))⟩
 f15:=func122.trans (congrArg some (by kernel_rfl))
 f20:=⟨Tryz.f154.name,by decide,func154.trans (congrArg some (by kernel_rfl))⟩
 f21:=⟨Tryz.f155.name,by decide,func155.trans (congrArg some (by kernel_rfl))⟩
 f22:=⟨Tryz.f156.name,by decide,func156.trans (congrArg some (by kernel_rfl))⟩
 f23:=⟨Tryz.f157.name,by decide,func157.trans (congrArg some (by kernel_rfl))⟩
 f24:=⟨Tryz.f158.name,by decide,func158.trans (congrArg some (by kernel_rfl))⟩
 f25:=⟨Tryz.f159.name,by decide,func159.trans (congrArg some (by kernel_rfl))⟩
 f26:=⟨Tryz.f160.name,by decide,func160.trans (congrArg some (by kernel_rfl))⟩
 f27:=⟨Tryz.f161.name,by decide,func161.trans (congrArg some (by kernel_rfl))⟩
 f28:=func162.trans (congrArg some (by kernel_rfl))
 f29:=func163.trans (congrArg some (by kernel_rfl))
 f46:=⟨Tryz.f194.name,by decide,func194.trans (congrArg some (by kernel_rfl))⟩
 f47:=func195.trans (congrArg some (by kernel_rfl))
 f48:=func196.trans (congrArg some (by kernel_rfl))
 f49:=⟨Tryz.f197.name,by decide,func197.trans (congrArg some (by kernel_rfl))⟩
 f50:=⟨Tryz.f198.name,by decide,func198.trans (congrArg some (by kernel_rfl))⟩
 f57:=⟨Tryz.f222.name,by decide,func222.trans (congrArg some (by kernel_rfl))⟩
 t0:=underlying0
 a0:=Tryz.isAgg0
 z0:=Tryz.sizeOf0
 v0:=Tryz.zeroValue0
 t3:=underlying3
 a3:=Tryz.isAgg3
 z3:=Tryz.sizeOf3
 v3:=Tryz.zeroValue3
 t4:=underlying4
 a4:=Tryz.isAgg4
 z4:=Tryz.sizeOf4
 v4:=Tryz.zeroValue4
 t5:=underlying5
 a5:=Tryz.isAgg5
 z5:=Tryz.sizeOf5
 v5:=Tryz.zeroValue5
 t9:=underlying9
 a9:=Tryz.isAgg9
 z9:=Tryz.sizeOf9
 v9:=Tryz.zeroValue9
 t22:=underlying71
 a22:=Tryz.isAgg71
 z22:=Tryz.sizeOf71
 v22:=Tryz.zeroValue71
 a24:=Tryz.isAgg34
 z24:=Tryz.sizeOf34
 t25:=underlying139
 a25:=Tryz.isAgg139
 z25:=Tryz.sizeOf139
 v25:=Tryz.zeroValue139
 t39:=underlying176
 a39:=Tryz.isAgg176
 z39:=Tryz.sizeOf176
 v39:=Tryz.zeroValue176
 t45:=underlying204
 a45:=Tryz.isAgg204
 z45:=Tryz.sizeOf204
 v45:=Tryz.zeroValue204
 t46:=underlying205
 a46:=Tryz.isAgg205
 z46:=Tryz.sizeOf205
 v46:=Tryz.zeroValue205
 t50:=underlying90
 a50:=Tryz.isAgg90
 z50:=Tryz.sizeOf90
 v50:=Tryz.zeroValue90
 t53:=underlying211
 a53:=Tryz.isAgg211
 z53:=Tryz.sizeOf211
 v53:=Tryz.zeroValue211
 t55:=underlying213
 a55:=Tryz.isAgg213
 z55:=Tryz.sizeOf213
 v55:=Tryz.zeroValue213
 t66:=underlying241
 a66:=Tryz.isAgg241
 z66:=Tryz.sizeOf241
 v66:=Tryz.zeroValue241
 t70:=underlying245
 a70:=Tryz.isAgg245
 z70:=Tryz.sizeOf245
 v70:=Tryz.zeroValue245
 t76:=underlying263
 a76:=Tryz.isAgg263
 z76:=Tryz.sizeOf263
 v76:=Tryz.zeroValue263
 t77:=underlying164
 a77:=Tryz.isAgg164
 z77:=Tryz.sizeOf164
 v77:=Tryz.zeroValue164}
def Tryz.sortP06_ren:Go.Shelf.Ren:=⟨fun|6=>81|15=>122|14=>121|28=>162|29=>163|20=>154|21=>155|22=>156|23=>157|24=>158|25=>159|26=>160|27=>161|46=>194|47=>195|48=>196|49=>197|50=>198|57=>222|n=>n,fun|22=>71|24=>34|25=>139|3=>3|39=>176|0=>0|53=>211|55=>213|4=>4|46=>205|45=>204|50=>90|5=>5|9=>9|66=>241|70=>245|76=>263|77=>164|n=>n,fun|n=>n⟩
theorem Tryz.sortP06:Go.Proofs.SlLaysF0.n6 prog Tryz.sortP06_ren:={
 mixed:=by kernel_rfl
 f6:=⟨Tryz.f81.name,by decide,func81.trans (congrArg some (by kernel_rfl))⟩
 f14:=⟨Tryz.f121.name,by decide,func121.trans (congrArg some (by kernel_rfl))⟩
 f15:=func122.trans (congrArg some (by kernel_rfl))
 f20:=⟨Tryz.f154.name,by decide,func154.trans (congrArg some (by kernel_rfl))⟩
 f21:=⟨Tryz.f155.name,by decide,func155.trans (congrArg some (by kernel_rfl))⟩
 f22:=⟨Tryz.f156.name,by decide,func156.trans (congrArg some (by kernel_rfl))⟩
 f23:=⟨Tryz.f157.name,by decide,func157.trans (congrArg some (by kernel_rfl))⟩
 f24:=⟨Tryz.f158.name,by decide,func158.trans (congrArg some (by kernel_rfl))⟩
 f25:=⟨Tryz.f159.name,by decide,func159.trans (congrArg some (by kernel_rfl))⟩
 f26:=⟨Tryz.f160.name,by decide,func160.trans (congrArg some (by kernel_rfl))⟩
 f27:=⟨Tryz.f161.name,by decide,func161.trans (congrArg some (by kernel_rfl))⟩
 f28:=func162.trans (congrArg some (by kernel_rfl))
 f29:=func163.trans (congrArg some (by kernel_rfl))
 f46:=⟨Tryz.f194.name,by decide,func194.trans (congrArg some (by kernel_rfl))⟩
 f47:=func195.trans (congrArg some (by kernel_rfl))
 f48:=func196.trans (congrArg some (by kernel_rfl))
 f49:=⟨Tryz.f197.name,by decide,func197.trans (congrArg some (by kernel_rfl))⟩
 f50:=⟨Tryz.f198.name,by decide,func198.trans (congrArg some (by kernel_rfl))⟩
 f57:=⟨Tryz.f222.name,by decide,func222.trans (congrArg some (by kernel_rfl))⟩
 t0:=underlying0
 a0:=Tryz.isAgg0
 z0:=Tryz.sizeOf0
 v0:=Tryz.zeroValue0
 t3:=underlying3
 a3:=Tryz.isAgg3
 z3:=Tryz.sizeOf3
 v3:=Tryz.zeroValue3
 t4:=underlying4
 a4:=Tryz.isAgg4
 z4:=Tryz.sizeOf4
 v4:=Tryz.zeroValue4
 t5:=underlying5
 a5:=Tryz.isAgg5
 z5:=Tryz.sizeOf5
 v5:=Tryz.zeroValue5
 t9:=underlying9
 a9:=Tryz.isAgg9
 z9:=Tryz.sizeOf9
 v9:=Tryz.zeroValue9
 t22:=underlying71
 a22:=Tryz.isAgg71
 z22:=Tryz.sizeOf71
 v22:=Tryz.zeroValue71
 t25:=underlying139
 a25:=Tryz.isAgg139
 z25:=Tryz.sizeOf139
 v25:=Tryz.zeroValue139
 t39:=underlying176
 a39:=Tryz.isAgg176
 z39:=Tryz.sizeOf176
 v39:=Tryz.zeroValue176
 t45:=underlying204
 a45:=Tryz.isAgg204
 z45:=Tryz.sizeOf204
 v45:=Tryz.zeroValue204
 t46:=underlying205
 a46:=Tryz.isAgg205
 z46:=Tryz.sizeOf205
 v46:=Tryz.zeroValue205
 t50:=underlying90
 a50:=Tryz.isAgg90
 z50:=Tryz.sizeOf90
 v50:=Tryz.zeroValue90
 t53:=underlying211
 a53:=Tryz.isAgg211
 z53:=Tryz.sizeOf211
 v53:=Tryz.zeroValue211
 t55:=underlying213
 a55:=Tryz.isAgg213
 z55:=Tryz.sizeOf213
 v55:=Tryz.zeroValue213
 t66:=underlying241
 a66:=Tryz.isAgg241
 z66:=Tryz.sizeOf241
 v66:=Tryz.zeroValue241
 t70:=underlying245
 a70:=Tryz.isAgg245
 z70:=Tryz.sizeOf245
 v70:=Tryz.zeroValue245
 t76:=underlying263
 a76:=Tryz.isAgg263
 z76:=Tryz.sizeOf263
 v76:=Tryz.zeroValue263
 t77:=underlying164
 a77:=Tryz.isAgg164
 z77:=Tryz.sizeOf164
 v77:=Tryz.zeroValue164}
end Go.Proofs
namespace Edt
open Go Go.Lib Go.Sort Tre Prs Lns
def insP (p:List ByteArray):List (List ByteArray)→List (List ByteArray)
 | []=> [p]
 |q::r=>if cmpL p q=0 then q::r else if cmpL p q<0 then p::q::r else q::insP p r
def uniS (l:List (List ByteArray)):List (List ByteArray):=l.foldr insP []
theorem Zyt {p x:List ByteArray}: ∀ {l:List (List ByteArray)},x∈insP p l↔x=p∨x∈l
 | []=>by simp[insP]
 | q ::r=>by
   unfold insP;by_cases h:cmpL p q=0
   · rw[Yam h,Ziu.1 h];simp
   · rw [Yab h];by_cases h2:cmpL p q<0
     · rw[Yam h2];simp
     · rw[Yab h2,Yav,Zyt,Yav];constructor
       · rintro(h|h|h)
         · exact .inr (.inl h)
         · exact .inl h
         · exact .inr (.inr h)
       · rintro(h|h|h)
         · exact .inr (.inl h)
         · exact .inl h
         · exact .inr (.inr h)
theorem Zaik {p:List ByteArray}: ∀ {l:List (List ByteArray)},l.Pairwise pLt→(insP p l).Pairwise pLt
 | [],_=>by simp[insP]
 | q ::r,h=>by
   obtain⟨h1,h2⟩:=Ycj.1 h;unfold insP;by_cases h3:cmpL p q=0
   · rw[Yam h3];exact h
   · rw[Yab h3];by_cases h4:cmpL p q<0
     · rw[Yam h4];have h5:=Zju.1 h4;refine Ycj.2 ⟨fun x hx=> ?_,h⟩
       rcases Yav.1 hx with rfl|hx
       · exact h5
       · exact Zcl h5 (h1 x hx)
     · rw[Yab h4];refine Ycj.2 ⟨fun x hx=> ?_,Zaik h2⟩
       rcases Zyt.1 hx with rfl|hx
       · rw[←Zju,Zoi];omega
       · exact h1 x hx
theorem Zyu {x:List ByteArray}: ∀ {l:List (List ByteArray)},x∈uniS l↔x∈l
 | []=>Iff.rfl
 | q::r=>by
   show x∈insP q (uniS r)↔_;rw[Zyt,Zyu,Yav]
theorem Zsb: ∀ (l:List (List ByteArray)),(uniS l).Pairwise pLt
 | []=>List.Pairwise.nil
 |q::r=>Zaik (Zsb r)
theorem Zbfn {S l:List (List ByteArray)} (h:S.Pairwise pLt) (hm: ∀ x,x∈S↔x∈l):S=uniS l:=
 Zpp h (Zsb l) fun q=>by rw[hm,Zyu]
end Edt
namespace Go.Proofs.Zq
open Tryz
open Go Go.RowKit Go.Sort Tre Lx Prs Lns Edt
abbrev PV:=Value×List ByteArray
def POwn (w:World) (x:PV):Prop:=w.ownsRow 0 9 1 x.1 x.2.length (sv x.2)
def PRow (w:World) (base:Nat) (v:Value) (Q:List PV):Prop:=w.ownsRow base 34 1 v Q.length (Q.map Prod.fst)∧ ∀ x∈Q,POwn w x
theorem POwn.below {w w':World} {x:PV} (h:POwn w x) (hb:Below w.heap.size w w'):POwn w' x:=Zai h hb
theorem PRow.below {w w':World} {base:Nat} {v:Value} {Q:List PV} (h:PRow w base v Q) (hb:Below w.heap.size w w'):PRow w' base v Q:=⟨Zai h.1 hb,fun x hx=>(h.2 x hx).below hb⟩
theorem POwn.keep {w w':World} {x:PV} (h:POwn w x) (k:Zbw 34 w w'):POwn w' x:=k.own (by decide) h
theorem POwn.cell {w:World} {x:PV} (h:POwn w x):x.1.oneCell'=true:=by
 obtain⟨A,c,e,-⟩:=Zbj h;rw[e];rfl
theorem POwn.pr {w:World} {x:PV} (h:POwn w x):Pr w x.1 x.2:=Pr.own h
theorem Zays (w:World) (base:Nat):PRow w base (.slice none 0 0) []:=⟨World.ownsRow_nil _ _ _ _,fun x hx=>by cases hx⟩
theorem Zard {w w':World} {base:Nat} {v':Value} {Q:List PV} {x:PV} (h:w'.ownsRow base 34 1 v' (Q.length+1) (Q.map Prod.fst++ [x.1])) (hq: ∀ y∈Q,POwn w y) (hx:POwn w x) (k:Zbw 34 w w'):PRow w' base v' (Q++ [x]):=by
 refine⟨by simpa using h,fun y hy=> ?_⟩
 rcases Ybn.1 hy with hy|hy
 · exact(hq y hy).keep k
 · rw[Ybu]at hy;rw[hy];exact hx.keep k
theorem Zix:(prog.info? 34).map (fun i=>(i.zero,i.size,i.bytes))=some (some (.slice none 0 0),1,24):=by kernel_rfl
theorem Zayo (x y:PV) (w:World) (hx:POwn w x) (hy:POwn w y) (hl:x.2.length≤1000000) (hl2:y.2.length≤1000000):
 Calls prog 82 #[x.1,y.1] w fun e w'=>e= .returned (.int .i64 (cmpL x.2 y.2))∧w'=w:=by
 obtain⟨v,P⟩:=x;obtain⟨v2,P2⟩:=y;have hx':Pr w v P:=hx.pr;have hy':Pr w v2 P2:=hy.pr;obtain⟨A,c,rfl,-,-,hR⟩:=hx';obtain⟨A2,c2,rfl,-,-,hR2⟩:=hy';have HC:=Zhd (Zavt A A2 c c2 P P2 w hR hR2 hl hl2);clear hx hy hR hR2;go_enter func82,ntmps82;go_wp2_with fail;refine HC.out.mono ?_;rintro e w' ⟨rfl,rfl⟩;go_wp2;go_ret;exact⟨rfl,rfl⟩
theorem Zabn {α:Type} [Inhabited α] {enc:α→Value} {e:TypeId} {w:World} {g n:Nat} {d:Array α} {os:Array Obj} {cur:Array Value} (hg:w.heap[g]?=some (.cells cur e (0,0))):Zbw e w (sortWorld enc w g 0 n d os):=by
 intro k c T hT hk;have hlt:k<w.heap.size:=(Ybf.1 hk).1
 have hne:g≠k:=fun h=>by
  subst h;rw[hg]at hk;injection hk with hk
  injection hk with h1 h2
  exact hT h2.symm
 have h1:(putRow enc (Sort.ahead w n) g 0 d).heap[k]?=w.heap[k]?:=by
  simp[putRow,mapBlock,Sort.ahead,Array.getElem?_modify,hne]
 have h2:k<(putRow enc (Sort.ahead w n) g 0 d).heap.size:=by simpa[putRow,mapBlock,Sort.ahead]using hlt
 have h3:(sortWorld enc w g 0 n d os).heap[k]?=(putRow enc (Sort.ahead w n) g 0 d).heap[k]?:=by
  unfold sortWorld;simp[grow,Array.getElem?_append_left h2]
 rw[h3,h1,hk]
theorem Zasg (Q:List PV) (base g cap:Nat) (w:World) (h0:0<Q.length) (hl:Q.length≤1000000) (hQ: ∀ x∈Q,x.2.length≤1000000) (hB:base≤w.heap.size) (hO:PRow w base (.slice (some ⟨g,0,none⟩) Q.length cap) Q):
 Calls prog 81 #[.slice (some ⟨g,0,none⟩) Q.length cap, .func (.func 82) #[] #[]] w fun e w'=>e= .returned (.tuple #[])∧
  ∃ Q':List PV,Q'.Perm Q∧Q'.Pairwise (fun a b=>cmpL a.2 b.2≤0)∧PRow w' base (.slice (some ⟨g,0,none⟩) Q'.length cap) Q'∧Below base w w':=by
 have hI:Inhabited {x:PV//x∈Q}:=⟨⟨Q[0],Yaw h0⟩⟩;obtain⟨zs,hzs⟩: ∃ zs:List {x:PV//x∈Q},zs=Q.attach:=⟨_,rfl⟩;obtain⟨enc,henc⟩: ∃ enc:{x:PV//x∈Q}→Value,enc=fun x=>x.1.1:=⟨_,rfl⟩
 have hmap: ∀ l:List {x:PV//x∈Q},l.map enc=(l.map fun x=>x.1).map Prod.fst:=fun l=>by rw[henc,Yes];rfl
 have hz1:zs.map (fun x=>x.1)=Q:=by rw[hzs];exact List.attach_map_subtype_val _
 have hO2:w.ownsRow base 34 1 (.slice (some ⟨g,0,none⟩) Q.length cap) Q.length (zs.map enc):=by rw[hmap,hz1];exact hO.1
 obtain⟨g',cap',e1,hbg,hgl,-,-,hzl,hH⟩:=Lib.holds_of_ownsRow hO2 (by simp)
 obtain rfl:g=g':=by cases e1;rfl
 obtain⟨cur,hcur⟩: ∃ cur,w.heap[g]?=some (.cells cur 34 (0,0)):=by
  rcases hO2.2 with⟨h',-⟩|⟨g2,c2,cur,h',-,hh,-⟩
  · cases h'
  · injection h' with h1
    injection h1 with h1
    injection h1 with h1
    exact⟨cur,by rw[h1];exact hh⟩
 have hcmp:CmpLays1 prog 82 #[] enc (fun x y=>cmpL x.1.2 y.1.2) g 0 zs.toArray.size w:=fun m os dk _ x y=>by
  have k:=Zabn (enc:=enc) (n:=m) (d:=dk) (os:=os) hcur;have h:=Zayo x.1 y.1 (sortWorld enc w g 0 m dk os) ((hO.2 x.1 x.2).keep k) ((hO.2 y.1 y.2).keep k) (hQ x.1 x.2) (hQ y.1 y.2);rw[henc]at h⊢;refine Calls.mono h ?_;rintro e w' ⟨rfl,rfl⟩;exact⟨rfl,0,#[],by rw[grow_empty];rfl⟩
 have h:=Any.slices_SortFunc Tryz.sortP6 enc (fun x=>by rw[henc];exact(hO.2 x.1 x.2).cell) (fun x y=>cmpL x.1.2 y.1.2) (Zayq.by fun x:{x:PV//x∈Q}=>x.1.2).swo 82 #[] g 0 cap zs.toArray w (enters_of func82 (by kernel_rfl) rfl) hcmp hH hgl (by simp;omega)
 have hs:zs.toArray.size=Q.length:=by simpa using hzl
 rw[hs]at h;refine h.mono ?_;rintro e w' ⟨rfl,d',n,os,hP,hS,rfl⟩;obtain⟨hsz,-,hperm⟩:=hP;rw[hs]at hsz;have e1:d'.extract 0 Q.length=d':=by rw[←hsz];exact Array.extract_size
 have e2:zs.toArray.extract 0 Q.length=zs.toArray:=by rw[←hs];exact Array.extract_size
 rw[e1,e2]at hperm;have hdl:(d'.toList.map fun x=>x.1).length=Q.length:=by rw[Yay,Yau];exact hsz
 refine⟨rfl,d'.toList.map fun x=>x.1, ?_, ?_,⟨?_,fun y hy=> ?_⟩,Zlb hB hbg⟩
 · have:=hperm.map fun x:{x:PV//x∈Q}=>x.1
   rw[List.toList_toArray,hz1]at this;exact this
 · rw[List.pairwise_map,Ydx];intro i j hi hj hij;have hi':i<d'.size:=by simpa using hi
   have hj':j<d'.size:=by simpa using hj
   have h3:=hS i j (Yas _) hij (by omega)
   rw[getElem!_pos d' j hj',getElem!_pos d' i hi']at h3;unfold ltOf at h3;rw[decide_eq_false_iff_not]at h3;have h4: ¬ cmpL d'[j].1.2 d'[i].1.2<0:=h3;have h2:=Zoi d'[j].1.2 d'[i].1.2;have h5:cmpL d'[i].1.2 d'[j].1.2≤0:=by omega
   simpa using h5
 · have hr:=Lib.ownsRow_putRow (q:=n) (k:=Q.length) (ys:=d'.toList) hO2 (by rw[Yau];exact hsz) (Yaf _)
   have h3:d'.toList.take Q.length=d'.toList:=Ybh (by rw[Yau];omega)
   rw[h3,hmap]at hr;rw[hdl];have hr2:(putRow enc (Sort.ahead w n) g 0 d').ownsRow base 34 1 (.slice (some ⟨g,0,none⟩) Q.length cap) Q.length ((d'.toList.map fun x=>x.1).map Prod.fst):=by simpa using hr
   exact Zai hr2 (Znl _ os)
 · obtain⟨z,-,rfl⟩:=Yct.1 hy;exact(hO.2 z.1 z.2).keep (Zabn hcur)
def ddF (l:List ByteArray):List PV→List PV
 | []=> []
 |y::r=>if y.2=l then ddF y.2 r else y::ddF y.2 r
def dd:List PV→List PV
 | []=> []
 |x::r=>x::ddF x.2 r
def lk (l:List ByteArray):List PV→List ByteArray
 | []=>l
 |y::r=>lk y.2 r
theorem Zxt (a:PV): ∀ (L:List PV) (l:List ByteArray),ddF l (L++ [a])=ddF l L++if a.2=lk l L then []else [a]
 | [],l=>by
   show ddF l [a]=_;unfold ddF;unfold lk;split<;>rfl
 | y::r,l=>by
   show ddF l (y::(r++ [a]))=_;unfold ddF lk;split
   · exact Zxt a r y.2
   · rw[Zxt a r y.2];rfl
theorem Zapp: ∀ (L:List PV) (l:List ByteArray) (k:Nat) (h:k<L.length),k+1=L.length→lk l L=L[k].2
 | [],_,_,h,_=>by simp at h
 | [y],l,k,h,e=>by
   obtain rfl:k=0:=by simpa using e
   rfl
 | y::z::r,l,k,h,e=>by
   cases k with
   |zero=>simp at e
   |succ k=>exact Zapp (z::r) y.2 k (by simpa using h) (by simpa using e)
theorem Zanp {Q:List PV} {k:Nat} (h:k+1<Q.length):dd (Q.take (k+2))=dd (Q.take (k+1))++if Q[k+1].2=(Q[k]'(by omega)).2 then []else [Q[k+1]]:=by
 rw[Yax h];cases Q with
 |nil=>simp at h
 | cons x r=>
   show x::ddF x.2 (r.take k++ [(x::r)[k+1]])=_;rw[Zxt]
   have hl:lk x.2 (r.take k)=(x::r)[k].2:=by
    cases k with
    |zero=>rfl
    | succ k=>
      have hk:k<(r.take (k+1)).length:=by
       rw[Yah];simp at h;omega
      rw[Zapp (r.take (k+1)) x.2 k hk (by rw[Yah];simp at h;omega)]
      simp
   rw[hl];rfl
theorem Zadq: ∀ (L:List PV) (l:List ByteArray),(ddF l L).Sublist L
 | [],_=>List.Sublist.refl _
 | y::r,l=>by
   unfold ddF;split
   · exact(Zadq r y.2).cons _
   · exact(Zadq r y.2).cons_cons _
theorem Zbah (L:List PV):(dd L).Sublist L:=by
 cases L with
 |nil=>exact List.Sublist.refl _
 |cons x r=>exact(Zadq r x.2).cons_cons _
theorem Zano: ∀ (L:List PV) (l:List ByteArray),(∀ y∈L,cmpL l y.2≤0)→L.Pairwise (fun a b=>cmpL a.2 b.2≤0)→(∀ y∈ddF l L,pLt l y.2)∧(ddF l L).Pairwise (fun a b=>pLt a.2 b.2)
 | [],_,_,_=>⟨fun y hy=>(by cases hy),List.Pairwise.nil⟩
 | y ::r,l,h1,h2=>by
   obtain⟨g1,g2⟩:=Ycj.1 h2;obtain⟨i1,i2⟩:=Zano r y.2 g1 g2;unfold ddF;split
   · rename_i e;exact⟨fun z hz=>by rw[←e];exact i1 z hz,i2⟩
   · rename_i e;have h3:pLt l y.2:=by
      have:=h1 y (Ycg ..);rcases Yek this with h|h
      · exact Zju.1 h
      · exact absurd (Ziu.1 h).symm e
     refine⟨fun z hz=> ?_,Ycj.2 ⟨i1,i2⟩⟩
     rcases Yav.1 hz with rfl|hz
     · exact h3
     · exact Zcl h3 (i1 z hz)
theorem Zadp: ∀ (L:List PV) (l:List ByteArray) (y:PV),y∈L→y.2=l∨ ∃ z∈ddF l L,z.2=y.2
 | [],_,_,h=>by cases h
 | x ::r,l,y,h=>by
   unfold ddF;rcases Yav.1 h with rfl|h
   · split
     · rename_i e;exact .inl e
     · exact .inr ⟨y,Ycg ..,rfl⟩
   · split
     · rename_i e;rcases Zadp r x.2 y h with h1|h1
       · exact .inl (h1.trans e)
       · exact .inr h1
     · rcases Zadp r x.2 y h with h1|⟨z,hz,h1⟩
       · exact .inr ⟨x,Ycg ..,h1.symm⟩
       · exact .inr ⟨z,Yca _ hz,h1⟩
theorem Zbgg {L:List PV} (h:L.Pairwise (fun a b=>cmpL a.2 b.2≤0)):((dd L).map Prod.snd).Pairwise pLt∧ ∀ q,q∈(dd L).map Prod.snd↔q∈L.map Prod.snd:=by
 refine⟨?_,fun q=>⟨fun hq=> ?_,fun hq=> ?_⟩⟩
 · rw[List.pairwise_map];cases L with
   |nil=>exact List.Pairwise.nil
   | cons x r=>
     obtain⟨g1,g2⟩:=Ycj.1 h;obtain⟨i1,i2⟩:=Zano r x.2 g1 g2;exact Ycj.2 ⟨i1,i2⟩
 · obtain⟨z,hz,rfl⟩:=Yct.1 hq;exact Yct.2 ⟨z,(Zbah L).subset hz,rfl⟩
 · obtain⟨z,hz,rfl⟩:=Yct.1 hq;cases L with
   |nil=>cases hz
   | cons x r=>
     rcases Yav.1 hz with rfl|hz
     · exact Yct.2 ⟨z,Ycg ..,rfl⟩
     · rcases Zadp r x.2 z hz with h1|⟨y,hy,h1⟩
       · exact Yct.2 ⟨x,Ycg ..,h1.symm⟩
       · exact Yct.2 ⟨y,Yca _ hy,h1⟩
theorem Zbcb (A A2:Option Addr) (c c2:Nat) (P P2:List ByteArray) (w:World) (hR:Rd w 1 A P.length (sv P)) (hR2:Rd w 1 A2 P2.length (sv P2)) (hl:P.length≤1000000) (hl2:P2.length≤1000000):
 Calls prog 86 #[.slice A P.length c, .slice A2 P2.length c2] w fun e w'=>e= .returned (.bool (decide (P=P2)))∧ ∃ m,w'=w.drewN m:=by
 by_cases h:P.length=P2.length
 · rcases Ybj P.length with h0|h0
   · obtain rfl:P= []:=Yap h0;obtain rfl:P2= []:=Yap h.symm;refine(Tryz.slices_Equal_string_empty A A2 c 0 c2 w (by omega)).mono ?_
     rintro e w' ⟨rfl,rfl⟩;exact⟨rfl,0,rfl⟩
   · obtain⟨b,o,rfl,-,-,-⟩:=hR.strAt h0;obtain⟨b2,o2,rfl,-,-,-⟩:=hR2.strAt (i:=0) (by omega)
     have hg: ∀ {B O:Nat} {L:List ByteArray},Rd w 1 (some ⟨B,O,none⟩) L.length (sv L)→ ∀ j,j<L.length→w.cell? ⟨B,O+j,none⟩=some (.string (L.getD j ByteArray.empty)):=fun hr j hj=>by
      obtain⟨b',o',e,-,-,hx⟩:=hr.strAt hj;cases e;rw[hx,Yar,Yaj hj];rfl
     have:=Tryz.slices_Equal_string b o P.length c b2 o2 P2.length c2 P P2 w (Yaf _) (Yaf _) (by omega) (by omega) (hg hR) (hg hR2)
     rw[Ybw,Ybw]at this;exact this
 · refine(Tryz.slices_Equal_string_lens A A2 P.length c P2.length c2 w h).mono ?_;rintro e w' ⟨rfl,rfl⟩;exact⟨by rw[Yai fun e=>h (by rw[e])],0,rfl⟩
theorem Zbdi (x y:PV) (w:World) (hx:POwn w x) (hy:POwn w y) (hl:x.2.length≤1000000) (hl2:y.2.length≤1000000):
 Calls prog 85 #[x.1,y.1] w fun e w'=>e= .returned (.bool (decide (x.2=y.2)))∧ ∃ m,w'=w.drewN m:=by
 obtain⟨v,P⟩:=x;obtain⟨v2,P2⟩:=y;have hx':Pr w v P:=hx.pr;have hy':Pr w v2 P2:=hy.pr;obtain⟨A,c,rfl,-,-,hR⟩:=hx';obtain⟨A2,c2,rfl,-,-,hR2⟩:=hy';have HC:=Zhd (Zbcb A A2 c c2 P P2 w hR hR2 hl hl2);obtain⟨z,hz⟩: ∃ z,decide (P=P2)=z:=⟨_,rfl⟩;try simp only
 try simp only at HC
 rw[hz]at HC⊢;clear hx hy hR hR2 hz;go_enter func85,ntmps85;go_wp2_with fail;refine HC.out.mono ?_;rintro e w' ⟨rfl,m,rfl⟩;go_wp2;go_ret;exact⟨rfl,m,rfl⟩
theorem Zzu (w:World):(zeroValue 34).run prog w= .ok (.slice none 0 0) w:=by
 obtain⟨i0,hii,hz0,hz1,hz2⟩:=info_parts Zix;simp[zeroValue,typeInfo,hii,hz0]
theorem Zamf (n:Nat):(Builtin.zeroCells (Value.slice none 0 0).cells n).toList.length=n∧ ∀ u∈(Builtin.zeroCells (Value.slice none 0 0).cells n).toList,u.oneCell'=true:=by
 have hz:(Value.slice none 0 0).cells= #[.slice none 0 0]:=rfl;refine⟨by rw[hz,Yau];simp[Builtin.zeroCells],fun u hu=> ?_⟩
 rw[hz]at hu;simp only[Builtin.zeroCells]at hu;simp at hu;obtain⟨q,-,rfl⟩:=hu;have:q%1=0:=Nat.mod_one q;simp[this,Value.oneCell']
theorem Zaym {w:World} {base g n cap k:Nat} {e:TypeId} {xs:List Value} (h:w.ownsRow base e 1 (.slice (some ⟨g,0,none⟩) n cap) n xs) (hk:k≤n):w.ownsRow base e 1 (.slice (some ⟨g,0,none⟩) k cap) k (xs.take k):=by
 obtain⟨h1,h2⟩:=h;refine⟨by rw[Yah,h1];omega, ?_⟩
 rcases h2 with⟨e0,-⟩|⟨g',cap',cur,e0,hb,hg,hn,hm,hs,ht⟩
 · cases e0
 · injection e0 with e1 _ e3
   subst e3;refine .inr ⟨g',cap,cur,by rw[e1],hb,hg,by omega,hm,hs, ?_⟩
   rw[←ht,Ycl];congr 1;omega
theorem set_take {α:Type} (X:List α) (k:Nat) (v:α) (h:k<X.length):(X.set k v).take (k+1)=X.take k++ [v]:=by
 rw[Yax (by simpa using h),List.take_set,List.set_eq_of_length_le (by rw[Yah];omega),List.getElem_set_self]
theorem Zfa (g k:Nat) (h:g≠k): ∀ (vs:List Value) (o:Nat) (w:World),(w.setCells g o vs).heap[k]?=w.heap[k]?
 | [],_,_=>rfl
 | v::r,o,w=>by
   rw[World.setCells,Zfa g k h r];exact heap_setCell_other w ⟨g,o,none⟩ k v (fun e=>h e.symm)
theorem Zym {e:TypeId} {w:World} {g o:Nat} {vs:List Value} {base n cap sz:Nat} {xs:List Value} (ho:w.ownsRow base e sz (.slice (some ⟨g,0,none⟩) n cap) n xs):Zbw e w (w.setCells g o vs):=by
 intro k c T hT hk
 have hne:g≠k:=fun h=>by
  rcases ho.2 with⟨h',-⟩|⟨g',cap',cur,h',-,hh,-⟩
  · cases h'
  · injection h' with h1
    injection h1 with h1
    injection h1 with h1
    rw[←h1,h,hk]at hh;injection hh with hh
    injection hh with h2 h3
    exact hT h3
 rw[Zfa g k hne,hk]
theorem Zst (A:Option Addr) (n c:Nat) (f:Value) (w:World) (hn:n<2):
 Calls prog 84 #[.slice A n c,f] w fun e w'=>e= .returned (.slice A n c)∧w'=w:=by
 have hI:(n:Int)<2:=by omega
 go_enter func84,ntmps84;go_wp2;go_ret;exact⟨rfl,rfl⟩
theorem Zado (Q:List PV) (base g cap:Nat) (w:World) (h2:2≤Q.length) (hl:Q.length≤1000000) (hQ: ∀ x∈Q,x.2.length≤1000000) (hcap:Q.length≤cap) (hcm:cap≤maxLen) (hB:base≤w.heap.size) (hO:PRow w base (.slice (some ⟨g,0,none⟩) Q.length cap) Q):
 Calls prog 84 #[.slice (some ⟨g,0,none⟩) Q.length cap, .func (.func 85) #[] #[]] w fun e w'=>e= .returned (.slice (some ⟨g,0,none⟩) (dd Q).length cap)∧PRow w' base (.slice (some ⟨g,0,none⟩) (dd Q).length cap) (dd Q)∧Below base w w':=by
 obtain⟨n,hn⟩: ∃ n,Q.length=n:=⟨_,rfl⟩
 have HE:Hid (∀ W i j (hi:i<Q.length) (hj:j<Q.length),Zbw 34 w W→Calls prog 85 #[Q[i].1,Q[j].1] W fun e w'=>e= .returned (.bool (decide (Q[i].2=Q[j].2)))∧ ∃ m,w'=W.drewN m):=fun W i j hi hj k=>
  Zbdi Q[i] Q[j] W ((hO.2 _ (Yaw hi)).keep k) ((hO.2 _ (Yaw hj)).keep k) (hQ _ (Yaw hi)) (hQ _ (Yaw hj))
 have HO:=Zhd hO;have hgb:=(hO.1.lt g rfl).1;have hI2: ¬ (n:Int)<2:=by omega
 unfold maxLen at hcm;have hrow:=hO.1;clear hO hQ;rw[hn]at hrow⊢;go_enter func84,ntmps84;go_wp2;go_loopw [5] (fun vk wr=> ∃ k:Nat,1≤k∧k≤n∧vk= .int .i64 k∧Hid (dd (Q.take k)=Q.take k)∧Hid (wr.ownsRow base 34 1 (.slice (some ⟨g,0,none⟩) n cap) n (Q.map Prod.fst))∧Hid (Zbw 34 w wr)∧Hid (Below base w wr)) (fun vk _=>n-(intOf vk).toNat)
 case atStart=>
  refine⟨1,Yaf _,by omega,rfl, ?_,hrow,Zbw.refl _ _,Yag _ _⟩
  cases Q with
  |nil=>simp at h2
  |cons x r=>rfl
 case round =>
  clear hrow;obtain⟨k,hk1,hk,rfl,HD,HOw,HKw,HBw⟩:=hrel;by_cases hlt:k<n
  · obtain ⟨p,hp⟩: ∃ p,k=p+1:=⟨k-1,by omega⟩
    subst hp
    have x1:wr.cell? ⟨g,p+1,none⟩=some (Q[p+1]'(by omega)).1:=by
     rw[HOw.out.cellAt (p+1) (by omega),Ydb,Yaj (by omega)];rfl
    have x0:wr.cell? ⟨g,p,none⟩=some (Q[p]'(by omega)).1:=by
     rw[HOw.out.cellAt p (by omega),Ydb,Yaj (by omega)];rfl
    have hst:=Zhd (Zanp (Q:=Q) (k:=p) (by omega))
    have HE1:=Zhd (fun W hk=>HE.out W (p+1) p (by omega) (by omega) hk)
    have hltI:(p:Int)+1<(n:Int):=by omega
    have hpn:(p:Int)<(n:Int):=by omega
    have hp0:(0:Int)≤(p:Int)+1:=by omega
    have hp1:((p:Int)+1).toNat=p+1:=by omega
    have hw1:IntKind.i64.wrap (p:Int)=(p:Int):=by rw[IntKind.wrap_i64];omega
    have hKq:Hid (∀ m,Zbw 34 w (wr.drewN m)):=fun m=>HKw.out.below (Zao (Yag _ _) _)
    by_cases heq:Q[p+1].2=(Q[p]'(by omega)).2
    · rw [Yam heq,Ybg]at hst;rw[Yal heq]at HE1;have HD2:Hid (dd (Q.take (p+2))=Q.take (p+1)):=by show _=_;rw[hst.out,HD.out]
      clear HD hst heq;have HQp:Hid ((Q.map Prod.fst).take (p+1)=(dd (Q.take (p+2))).map Prod.fst):=by show _=_;rw[HD2.out,List.map_take]
      have hkl:(dd (Q.take (p+2))).length=p+1:=by rw[HD2.out,Yah];omega
      go_wp2_with fail;go_quiet ((go_at_call 85;exact Calls.quiet_of (HE1.out _ (hKq.out _))));have hKr:=hKq.out nq;have hBr:Below base w (wr.drewN nq):=Zao HBw.out _;have HOr:=Zhd (Zjd HOw.out nq);generalize wr.drewN nq=wq at *;have HKr:=Zhd hKr;have HBr:=Zhd hBr;clear hKr hBr hKq HE1 x1 x0;go_wp2;go_loopw [5,7] (fun vk v2 wr=> ∃ (k k2:Nat) (X:List Value),vk= .int .i64 k∧v2= .int .i64 k2∧1≤k2∧p+1+k2≤n∧k≤p+k2∧Hid ((dd (Q.take (p+1+k2))).length=k)∧X.length=n∧Hid (X.take k=(dd (Q.take (p+1+k2))).map Prod.fst)∧Hid (∀ j,p+k2≤j→X[j]?=(Q.map Prod.fst)[j]?)∧Hid (wr.ownsRow base 34 1 (.slice (some ⟨g,0,none⟩) n cap) n X)∧Hid (Zbw 34 w wr)∧Hid (Below base w wr)) (fun _ v2 _=>n-(intOf v2).toNat)
      case atStart=>exact⟨p+1,1,Q.map Prod.fst,rfl,rfl,Yaf _,by omega,by omega,hkl,by rw[Yay];exact hn,HQp.out,fun _ _=>rfl,HOr.out,HKr.out,HBr.out⟩
      case round=>
       clear HKr HBr HOr HQp hkl HD2;obtain⟨k,k2,X,rfl,rfl,hk2,hkn,hkk,HL,hXl,HT,HJ,HOx,HK,HBx⟩:=hrel;by_cases hlt2:p+1+k2<n
       · have y1:wr.cell? ⟨g,p+1+k2,none⟩=some (Q[p+1+k2]'(by omega)).1:=by
          rw[HOx.out.cellAt (p+1+k2) (by omega),HJ.out _ (by omega),Ydb,Yaj (by omega)];rfl
         have y0:wr.cell? ⟨g,p+k2,none⟩=some (Q[p+k2]'(by omega)).1:=by
          rw[HOx.out.cellAt (p+k2) (by omega),HJ.out _ (by omega),Ydb,Yaj (by omega)];rfl
         obtain⟨j,hj⟩: ∃ j,k2=j+1:=⟨k2-1,by omega⟩
         subst hj
         have hst:=Zhd (show dd (Q.take (p+1+(j+1+1)))=dd (Q.take (p+1+(j+1)))++if(Q[p+1+(j+1)]'(by omega)).2=(Q[p+(j+1)]'(by omega)).2 then []else [Q[p+1+(j+1)]'(by omega)]from by
          have:=Zanp (Q:=Q) (k:=p+(j+1)) (by omega)
          have e1:p+(j+1)+1=p+1+(j+1):=by omega
          have e2:p+(j+1)+2=p+1+(j+1+1):=by omega
          simp only[e1,e2]at this;exact this)
         have HE2:=Zhd (fun W hk=>HE.out W (p+1+(j+1)) (p+(j+1)) (by omega) (by omega) hk)
         have hKq:Hid (∀ m,Zbw 34 w (wr.drewN m)):=fun m=>HK.out.below (Zao (Yag _ _) _)
         have y0':wr.cell? ⟨g,p+1+j,none⟩=some (Q[p+(j+1)]'(by omega)).1:=by rw[show p+1+j=p+(j+1) by omega];exact y0
         have f1:(j:Int)+1<((n-(p+1):Nat):Int):=by omega
         have f2:(j:Int)<((n-(p+1):Nat):Int):=by omega
         have f3:(0:Int)≤(j:Int)+1:=by omega
         have f4:((j:Int)+1).toNat=j+1:=by omega
         have f5:IntKind.i64.wrap (j:Int)=j:=by rw[IntKind.wrap_i64];omega
         by_cases heq2:(Q[p+1+(j+1)]'(by omega)).2=(Q[p+(j+1)]'(by omega)).2
         · rw[Yam heq2,Ybg]at hst;rw[Yal heq2]at HE2;have HL2:Hid ((dd (Q.take (p+1+(j+1+1)))).length=k):=by show _=_;rw[hst.out];exact HL.out
           have HT2:Hid (X.take k=(dd (Q.take (p+1+(j+1+1)))).map Prod.fst):=by show _=_;rw[hst.out];exact HT.out
           clear HL HT hst heq2 y0;go_wp2_with fail;go_quiet ((go_at_call 85;exact Calls.quiet_of (HE2.out _ (hKq.out _))));go_wp2;go_roundw
           case rel=>exact⟨k,j+1+1,X,rfl,by go_num,by omega,by omega,by omega,HL2,hXl,HT2,fun i hi=>HJ.out i (by omega),Zjd HOx.out _,hKq.out _,Zao HBx.out _⟩
           case measure=>simp[intOf];omega
         · rw[Yab heq2]at hst;rw[Yai heq2]at HE2;obtain⟨Ae,ce,hve,-,-,-⟩:=Zbj (HO.out.2 _ (Yaw (show p+1+(j+1)<Q.length by omega)))
           have HL2:Hid ((dd (Q.take (p+1+(j+1+1)))).length=k+1):=by show _=_;rw[hst.out,Yae,HL.out];rfl
           have HT2:Hid ((X.set k (Q[p+1+(j+1)]'(by omega)).1).take (k+1)=(dd (Q.take (p+1+(j+1+1)))).map Prod.fst):=by
            show _=_;rw[hst.out,Ybv,←HT.out,set_take X k _ (by omega)];rfl
           have HJ2:Hid (∀ i,p+(j+1+1)≤i→(X.set k (Q[p+1+(j+1)]'(by omega)).1)[i]?=(Q.map Prod.fst)[i]?):=fun i hi=>by
            rw[List.getElem?_set_ne (by omega)];exact HJ.out i (by omega)
           have z1: ∀ m,(wr.drewN m).cell? ⟨g,k,none⟩=some (X[k]'(by omega)):=fun m=>by
            show wr.cell? _=_;rw[HOx.out.cellAt k (by omega),Yaj (by omega)]
           have z2: ∀ m,(wr.drewN m).frozen? ⟨g,k,none⟩=false:=fun m=>HOx.out.frozenAt _
           have hst2:=Zhd (fun m=>(Zjd HOx.out m).stored k (Q[p+1+(j+1)]'(by omega)).1)
           have hKs:Hid (∀ m,Zbw 34 w ((wr.drewN m).setCell ⟨g,k,none⟩ (Q[p+1+(j+1)]'(by omega)).1)):=fun m=>(hKq.out m).trans (Zbw.grown (Zjd HOx.out m) (hst2.out m).2)
           have hBs:Hid (∀ m,Below base w ((wr.drewN m).setCell ⟨g,k,none⟩ (Q[p+1+(j+1)]'(by omega)).1)):=fun m=>(Zao HBx.out m).setCell (p:=⟨g,k,none⟩) hgb _
           have hXl2:(X.set k (Q[p+1+(j+1)]'(by omega)).1).length=n:=by rw[Ycq];exact hXl
           have f6:(k:Int)<(n:Int):=by omega
           rw[hve]at y1 HE2 HT2 HJ2 hst2 hKs hBs hXl2;generalize (Q[p+1+(j+1)]'(by omega)).2.length=ne at *
           clear HL HT hst heq2 y0 hve;go_wp2_with fail;go_quiet ((go_at_call 85;exact Calls.quiet_of (HE2.out _ (hKq.out _))));have z1':=z1 nq;have z2':=z2 nq;clear z1 z2;go_wp2;go_roundw
           case rel=>exact⟨k+1,j+1+1,_,by go_num,by go_num,by omega,by omega,by omega,HL2,hXl2,HT2,HJ2,(hst2.out _).1,hKs.out _,hBs.out _⟩
           case measure=>simp[intOf];omega
       · have hke:p+1+k2=n:=by omega
         have hQt:Q.take (p+1+k2)=Q:=by rw[hke,←hn,Ybw]
         rw[hQt]at HL HT;have hkn2:k<n:=by omega
         have hzl:=Zamf (n-k);obtain⟨zs,hzs⟩: ∃ zs,(Builtin.zeroCells (Value.slice none 0 0).cells (n-k)).toList=zs:=⟨_,rfl⟩;obtain⟨w9,hw9⟩: ∃ w9,wr.setCells g k zs=w9:=⟨_,rfl⟩
         have hcl: ∀ ty,(Builtin.clear_ #[71] ty #[.slice (some ⟨g,k,none⟩) (n-k) (cap-k)]).run prog wr= .ok (.tuple #[]) w9:=fun ty=>by
          rw[←hw9,←hzs];refine Zmb wr 71 34 ty _ underlying71 Zzu g k (n-k) (cap-k) (by omega) (fun i hi=> ?_) (fun i hi=>HOx.out.frozenAt _) hzl.2
          rw[hzl.1]at hi;rw[HOx.out.cellAt (k+i) (by omega),Yaj (by omega)];rfl
         rw[hzs]at hzl;have hO9:=Zlw zs (X.drop k) (X.take k) [] wr (by rw[hzl.1,Yan,hXl]) (by rw[Ybg,Ybk];exact HOx.out)
         rw[Yah,Yba (by omega),Ybg,hw9]at hO9
         have hO10:=Zaym hO9 (k:=k) (by omega)
         rw[Yce (by rw[Yah];omega),Ycl,Nat.min_self,HT.out]at hO10
         have HO9:=Zhd hO10
         have HK9:Hid (Zbw 34 w w9):=by
          show Zbw _ _ _;rw[←hw9];exact HK.out.trans (Zym HOx.out)
         have HB9:Hid (Below base w w9):=by
          show Below _ _ _;rw[←hw9];exact Zap hgb _ _ HBx.out
         have f6:(k:Int)≤(n:Int):=by omega
         have f7:(n:Int)-(k:Int)=((n-k:Nat):Int):=by omega
         have f8:(cap:Int)-(k:Int)=((cap-k:Nat):Int):=by omega
         have f9: ¬ (cap=k):=by omega
         have f10: ¬ (k=cap):=by omega
         have f11: ¬ ((k2:Int)<((n-(p+1):Nat):Int)):=by omega
         have f12:(k:Int)≤(cap:Int):=by omega
         clear hzl hzs hw9 hO9 hO10 HT HOx HK HBx hQt;go_wp2;go_ret;rw[HL.out];exact⟨rfl,⟨by rw[HL.out];exact HO9.out,fun x hx=>(HO.out.2 x ((Zbah Q).subset hx)).keep HK9.out⟩,HB9.out⟩
    · rw[Yab heq]at hst;rw[Yai heq]at HE1
      have HD2:Hid (dd (Q.take (p+1+1))=Q.take (p+1+1)):=by
       show _=_;rw[hst.out,HD.out,←Yax]
      clear HD hst heq;go_wp2_with fail;go_quiet ((go_at_call 85;exact Calls.quiet_of (HE1.out _ (hKq.out _))));go_wp2;go_roundw
      case rel=>exact⟨p+1+1,by omega,by omega,by go_num,HD2,Zjd HOw.out _,hKq.out _,Zao HBw.out _⟩
      case measure=>simp[intOf];omega
  · have hke:k=n:=by omega
    subst hke;have hdq:dd Q=Q:=by
     have:=HD.out
     rwa [←hn,Ybw]at this
    have HDq:=Zhd hdq;clear hdq;go_wp2;go_ret;rw[HDq.out,hn];exact⟨rfl,⟨by rw[hn];exact HOw.out,fun x hx=>(HO.out.2 x hx).keep HKw.out⟩,HBw.out⟩
def PT (l:List (Value×List Line)) (k:Nat):List (List ByteArray):=(l.take k).flatMap fun t=>Zad t.2
theorem Zbay {l:List (Value×List Line)} {k:Nat} (h:k<l.length):PT l (k+1)=PT l k++Zad l[k].2:=by
 unfold PT;rw[Yax h,Ycf];simp
theorem Zass {L:List Line} (hr:Zab L=true) {i:Nat} (hi:i<L.length):(Zad L).take (i+1)=(Zad L).take i++ [Zdg L i]:=by
 rw[Zkh (Zac hr).2.1 hi,Zfu hi,Yax (by rw[Zaf];exact hi)]
theorem pathB_lenR {L:List Line} (hr:Zab L=true) {i:Nat} (hi:i<L.length):(Zdg L i).length≤16:=by
 rw[Zkh (Zac hr).2.1 hi];have h3:=Zbz (Zac hr).2.1 hi;have h4:=Zcf (Zac hr).2.1 hi;omega
theorem Zbgf: ∀ {L:List PV},L.length=1→dd L=L
 | [x],_=>rfl
 | [],h=>by simp at h
 |_::_::_,h=>by simp at h
theorem Zalb (v1 v2 v3:Value) (B M T:List Line) (w:World) (h1:Lr w v1 B) (h2:Lr w v2 M) (h3:Lr w v3 T) (hr1:Zab B=true) (hr2:Zab M=true) (hr3:Zab T=true):
 Calls prog 50 #[.agg #[v1,v2,v3]] w fun e w'=>(∃ v Q,e= .returned v∧PRow w' w.heap.size v Q∧Q.map Prod.snd=uniS (Zad B++Zad M++Zad T))∧Below w.heap.size w w':=by
 obtain⟨i0,hi,hz0,hz1,hz2⟩:=info_parts Zix;obtain⟨a1,d1,e1,-⟩:=id h1;obtain⟨a2,d2,e2,-⟩:=id h2;obtain⟨a3,d3,e3,-⟩:=id h3;subst e1;subst e2;subst e3;generalize B.length=n1 at *;generalize M.length=n2 at *;generalize T.length=n3 at *;obtain⟨l,hl⟩: ∃ l:List (Value×List Line),l= [((.slice a1 n1 d1),B),((.slice a2 n2 d2),M),((.slice a3 n3 d3),T)]:=⟨_,rfl⟩
 have HT:Hid (∀ k (hk:k<3),∃ v L,Lr w v L∧Zab L=true∧PT l (k+1)=PT l k++Zad L∧(#[(.slice a1 n1 d1),(.slice a2 n2 d2),(.slice a3 n3 d3)]:Array Value)[k]?=some v):=fun k hk=>by
  have hll:k<l.length:=by rw[hl];exact hk
  have:=Zbay hll
  match k,hk with
  |0,_=>exact⟨_,B,h1,hr1,by rw[this];simp[hl],rfl⟩
  |1,_=>exact⟨_,M,h2,hr2,by rw[this];simp[hl],rfl⟩
  |2,_=>exact⟨_,T,h3,hr3,by rw[this];simp[hl],rfl⟩
 have HF:Hid (PT l 3=Zad B++Zad M++Zad T):=by show _=_;rw[hl];simp[PT]
 have HA:=Zhd ((Yag w.heap.size w).alloc (Yaf _) (.cells #[(.slice a1 n1 d1),(.slice a2 n2 d2),(.slice a3 n3 d3)] 96));have HA2:=Zhd (HA.out.alloc (by simp) (.cells #[(.slice a1 n1 d1),(.slice a2 n2 d2),(.slice a3 n3 d3)] 26))
 have hq0:(w.alloc (.cells #[(.slice a1 n1 d1),(.slice a2 n2 d2),(.slice a3 n3 d3)] 96)).heap.size=w.heap.size+1:=by simp
 have HRow:Hid (((w.alloc (.cells #[(.slice a1 n1 d1),(.slice a2 n2 d2),(.slice a3 n3 d3)] 96)).alloc (.cells #[(.slice a1 n1 d1),(.slice a2 n2 d2),(.slice a3 n3 d3)] 26)).heap[w.heap.size+1]?=some (.cells #[(.slice a1 n1 d1),(.slice a2 n2 d2),(.slice a3 n3 d3)] 26 (0,0))):=by
  show _=_;rw[←hq0];exact heap_alloc_new _ _
 clear h1 h2 h3 hr1 hr2 hr3 hl hq0;go_enter func50,ntmps50;go_wp2;go_loopw [3,17] (fun v vk wr=> ∃ (k:Nat) (Q:List PV),k≤3∧vk= .int .i64 k∧Q.length≤200*k∧Hid (PRow wr w.heap.size v Q)∧Hid (Q.map Prod.snd=PT l k)∧Hid (∀ x∈Q,x.2.length≤16)∧Hid (wr.heap[w.heap.size+1]?=some (.cells #[(.slice a1 n1 d1),(.slice a2 n2 d2),(.slice a3 n3 d3)] 26 (0,0)))∧Hid (Below w.heap.size w wr)) (fun _ vk _=>3-(intOf vk).toNat)
 case atStart=>exact⟨0,[],Yas _,rfl,by simp,Zays _ _,rfl,(show ∀ x∈([]:List PV),x.2.length≤16 by simp),HRow.out,HA2.out⟩
 case round=>
  clear HRow HA HA2;obtain⟨k,Q,hk,rfl,hQl,HQ,HM,HS,HRow,HB⟩:=hrel;by_cases hlt:k<3
  · obtain⟨vt,L,hLr,hLR,hPT,hrow⟩:=HT.out k hlt;have x0:wr.cell? ⟨w.heap.size+1,k,none⟩=some vt:=by
     rw[cell_of_row wr _ k _ _ (0,0) HRow.out];exact hrow
    obtain⟨A,c,rfl,hc1,hc2,hR,hnil⟩:=hLr;have hkI:(k:Int)<3:=by omega
    have hL200:=Zau hLR;have HPa:=Zhd (fun(i:Nat) (hi:i<L.length) (W:World) (hb:Below w.heap.size w W)=>Zry A c L i W (hR.below hb) hc1 hc2 hLR hi)
    unfold Zpw at HPa;have HPT:=Zhd hPT;have HLR:=Zhd hLR;clear hPT hrow hR hnil hLR;go_wp2;go_loopw [3,23] (fun v vi wr=> ∃ (i:Nat) (Q:List PV),i≤L.length∧vi= .int .i64 i∧Q.length≤200*k+i∧Hid (PRow wr w.heap.size v Q)∧Hid (Q.map Prod.snd=PT l k++(Zad L).take i)∧Hid (∀ x∈Q,x.2.length≤16)∧Hid (wr.heap[w.heap.size+1]?=some (.cells #[(.slice a1 n1 d1),(.slice a2 n2 d2),(.slice a3 n3 d3)] 26 (0,0)))∧Hid (Below w.heap.size w wr)) (fun _ vi _=>L.length-(intOf vi).toNat)
    case atStart=>exact⟨0,Q,Yas _,rfl,hQl,HQ,by show _=_;rw[HM.out];simp,HS,HRow,HB⟩
    case round=>
     clear HQ HM HS HRow HB hQl x0;obtain⟨i,Q,hi',rfl,hQl,HQ,HM,HS,HRow,HB⟩:=hrel;by_cases hlt2:i<L.length
     · have HP:=Zhd (HPa.out i hlt2 wr HB.out)
       have HM2:Hid (∀ v:Value,(Q++ [(v,Zdg L i)]).map Prod.snd=PT l k++(Zad L).take (i+1)):=fun v=>by
        rw[Ybv,HM.out,Zass HLR.out hlt2,Ybc];rfl
       have hpl:=pathB_lenR HLR.out hlt2;generalize Zdg L i=pp at *;clear HM;go_wp2_with fail;refine HP.out.mono ?_;rintro e w3 ⟨v7,rfl,ho7,hb7⟩;obtain⟨A7,c7,e7,-⟩:=Zbj ho7;subst e7;have HO7:Hid (POwn w3 (.slice A7 pp.length c7,pp)):=World.ownsRow.mono ho7 (Yas _);have HQ3:=Zhd (HQ.out.below hb7);have HB3:=Zhd (Zaa HB.out hb7);have HRow3:=Zhd ((hb7.block _ (Ybf.1 HRow.out).1).trans HRow.out);clear ho7 hb7 HP HQ HB HRow;go_wp2_with (at_builtin;refine Zfk rfl _ _ 71 rfl w w3 34 i0 _ 1 24 underlying71 hi hz0 hz1 hz2 rfl (by decide) (by decide) HQ3.out.1 HB3.out rfl 1 1 [.slice A7 pp.length c7] rfl rfl (by intro u hu;rw[Ybu]at hu;rw[hu];exact HO7.out.cell) (by omega) ?_;intro v8 w8 hown8 hb8 hk8)
       have HQ8:Hid (PRow w8 w.heap.size v8 (Q++ [(.slice A7 pp.length c7,pp)])):=Zard hown8 HQ3.out.2 HO7.out hk8;have HB8:=Zhd hb8;have HRow8:=Zhd (hk8 _ _ _ (by decide) HRow3.out)
       have HS8:Hid (∀ x∈Q++ [(.slice A7 pp.length c7,pp)],x.2.length≤16):=fun x hx=>by
        rcases Ybn.1 hx with hx|hx
        · exact HS.out x hx
        · rw[Ybu]at hx;rw[hx];exact hpl
       clear hown8 hb8 hk8 HQ3 HB3 HRow3;go_wp2_with fail;go_roundw
       case rel=>exact⟨i+1,Q++ [(.slice A7 pp.length c7,pp)],by omega,by go_num,by rw[Yae,Ybz];omega,HQ8,HM2.out _,HS8,HRow8,HB8⟩
       case measure=>simp[intOf];omega
     · have hie:i=L.length:=by omega
       have HM2:Hid (Q.map Prod.snd=PT l (k+1)):=by
        show _=_;rw[HM.out,HPT.out,Ybh (by rw[Zaf];omega)]
       clear HM;go_wp2;go_roundw
       case rel=>exact⟨k+1,Q,by omega,by go_num,by omega,HQ,HM2,HS,HRow,HB⟩
       case measure=>simp[intOf];omega
  · have hke:k=3:=by omega
    subst hke;have HM2:Hid (Q.map Prod.snd=Zad B++Zad M++Zad T):=by show _=_;rw[HM.out,HF.out]
    clear HM HT HF HRow;by_cases h0:Q.length=0
    · have hQ0:Q= []:=Yap h0;subst hQ0;obtain⟨A,c,rfl,-,-,-⟩:=Zbj HQ.out.1;have HSn:=Zhd (AnyF.slices_SortFunc_none Tryz.sortP06 A c (.func (.func 82) #[] #[]) wr);have HCn:=Zhd (Zst A 0 c (.func (.func 85) #[] #[]) wr (by omega))
      have HE:Hid ([]=uniS (Zad B++Zad M++Zad T)):=by show _=_;rw[←HM2.out];rfl
      clear HM2;go_wp2_with fail;refine HSn.out.mono ?_;rintro e w3 ⟨rfl,rfl⟩;go_wp2_with fail;refine HCn.out.mono ?_;rintro e w4 ⟨rfl,rfl⟩;go_wp2;go_ret;exact⟨⟨_,[],rfl,HQ.out,HE.out⟩,HB.out⟩
    · have HU:Hid (∀ Q':List PV,Q'.Perm Q→Q'.Pairwise (fun a b=>cmpL a.2 b.2≤0)→(dd Q').map Prod.snd=uniS (Zad B++Zad M++Zad T)):=fun Q' hp hs=>by
       obtain⟨g1,g2⟩:=Zbgg hs;refine Zbfn g1 fun x=> ?_
       rw[g2,←HM2.out];exact(hp.map Prod.snd).mem_iff
      obtain⟨m,hm⟩: ∃ m,Q.length=m+1:=⟨Q.length-1,by omega⟩
      have ho':=HQ.out.1;rw[hm]at ho';obtain⟨q,c,e1⟩:=Zda ho';rw[←hm]at e1;subst e1;have hqc:Q.length≤c∧c≤maxLen:=by
       obtain⟨A4,c4,e4,g1,g2,-⟩:=Zbj HQ.out.1;injection e4 with _ _ e3
       subst e3;exact⟨g1,g2⟩
      have HSo:=Zhd (Zasg Q w.heap.size q c wr (by omega) (by omega) (fun x hx=>Yat (HS.out x hx) (by omega)) HB.out.size HQ.out)
      have HS2:Hid (∀ Q':List PV,Q'.Perm Q→Q'.length=Q.length∧ ∀ x∈Q',x.2.length≤1000000):=fun Q' hp=>⟨hp.length_eq,fun x hx=>Yat (HS.out x (hp.mem_iff.1 hx)) (by omega)⟩
      clear HM2 ho' hm HQ HS;go_wp2_with fail;refine HSo.out.mono ?_;rintro e w3 ⟨rfl,Q',hp,hs,hO,hb3⟩;have hl':=(HS2.out Q' hp).1;have HU2:=Zhd (HU.out Q' hp hs);have HB3:=Zhd (HB.out.trans hb3);have HO3:=Zhd hO;have HQl:=Zhd (HS2.out Q' hp).2;clear hb3 hO HSo HB HU hs HS2;have hp2:=Zhd hp;have HL':=Zhd hl';clear hp hl';by_cases h1:Q.length=1
      · have HD1:Hid (dd Q'=Q'):=by
         exact Zbgf (HL'.out.trans h1)
        have HCn:=Zhd (Zst (some ⟨q,0,none⟩) Q.length c (.func (.func 85) #[] #[]) w3 (by omega))
        clear h1;go_wp2_with fail;refine HCn.out.mono ?_;rintro e w4 ⟨rfl,rfl⟩;go_wp2;go_ret;exact⟨⟨_,Q',rfl,by rw[←HL'.out];exact HO3.out,by rw[←HU2.out,HD1.out]⟩,HB3.out⟩
      · have hl':=HL'.out;have HC:=Zhd (Zado Q' w.heap.size q c w3 (by omega) (by omega) HQl.out (by omega) hqc.2 HB3.out.size HO3.out)
        rw[hl']at HC;clear hl';go_wp2_with fail;refine HC.out.mono ?_;rintro e w4 ⟨rfl,hO4,hb4⟩;have HB4:=Zhd (HB3.out.trans hb4);have HO4:=Zhd hO4;clear hO4 hb4;go_wp2;go_ret;exact⟨⟨_,dd Q',rfl,HO4.out,HU2.out⟩,HB4.out⟩
end Go.Proofs.Zq
