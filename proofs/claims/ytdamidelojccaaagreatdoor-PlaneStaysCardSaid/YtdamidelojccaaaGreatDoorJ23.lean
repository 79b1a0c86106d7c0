import Derived.Test.YtdamidelojccaaaGreatDoorJ22
set_option linter.unusedVariables false
set_option linter.unusedSimpArgs false
set_option maxHeartbeats 4000000
set_option maxRecDepth 100000
namespace Go.Proofs.Zq
open Tryz
open Go Go.RowKit Go.Sort Tre Lx Prs Lns Edt
theorem Zack : (prog.info? 50).map (fun i => (i.zero, i.size, i.bytes)) = some (some (.agg #[.int .i64 0, .slice none 0 0]), 2, 32) := by kernel_rfl
theorem Zaeu (A : Option Addr) (c n : Nat) (xs : List Value) (w : World) (hR : Rd w 2 A n xs) (hnil : A = none → c = 0) (hb : n ≤ 1000000) (h1 : ∀ u ∈ xs, u.oneCell' = true) :
 Calls prog 35 #[.slice A n c] w fun e w' => (∃ v, e = .returned v ∧ w'.ownsRow w.heap.size 50 2 v n xs) ∧ Below w.heap.size w w' := by
 obtain ⟨i0, hii, hz0, hz1, hz2⟩ := info_parts Zack;cases A with
 | none =>
   have h0 : n = 0 := by
    rcases Ybn n with h | h
    · exact h
    · obtain ⟨ad, e, -⟩ := hR.2 h; cases e
   subst h0;have hx : xs = [] := Yaq (by simpa using hR.1)
   subst hx;obtain rfl := hnil rfl;have heq := fun wx : World => Lib.run_eql_slice_nil (P := prog) wx 26 50 none 0 0 0 0 underlying26
   clear hR;go_enter func35, ntmps35;go_wp2;go_ret;exact ⟨⟨_, rfl, World.ownsRow_nil _ _ _ _⟩, Yac _ _⟩
 | some ad =>
   obtain ⟨wo, hwo⟩ : ∃ wo, w.alloc (.cells #[] 50) = wo := ⟨_, rfl⟩;have hbo : Below w.heap.size w wo := by rw [← hwo]; exact (Yac _ _).alloc (Yaf _) _
   have hown : wo.ownsRow w.heap.size 50 2 (.slice (some ⟨w.heap.size, 0, none⟩) 0 0) 0 [] := by
    rw [← hwo];have := World.ownsRow_lit (e := 50) (size := 2) (base := w.heap.size) w #[] 0 (Yaf _) (by unfold maxLen; omega) rfl
    simpa using this
   have HR := Zhd (hR.below hbo);have HO := Zhd hown;have HBo := Zhd hbo;have H1 := Zhd h1;have heq := fun wx : World => Lib.run_eql_slice_nil (P := prog) wx 26 50 (some ad) n c 0 0 underlying26
   have HN : Hid (0 + n ≤ 1000000000) := by show _ ≤ _; omega
   clear hR hown hbo h1;go_enter func35, ntmps35;go_wp2_with (at_builtin; (refine Zabg rfl _ _ 26 rfl w wo 50 i0 _ 2 32 underlying26 hii hz0 hz1 hz2 rfl (by decide) (by decide) HO.out HBo.out rfl (some ad) n c xs rfl HR.out (fun h => by cases h) H1.out HN.out ?_; intro v1 w3 hown1 hb3))
   have HO3 : Hid (w3.ownsRow w.heap.size 50 2 v1 n xs) := by show World.ownsRow _ _ _ _ _ _ _; simpa using hown1
   clear hown1;go_wp2_with fail;go_ret;exact ⟨⟨_, rfl, HO3.out⟩, hb3⟩
end Go.Proofs.Zq
namespace Edt
open Go Go.Lib Tre
def Zpa (L : List Line) (i : Nat) : Bool := decide (i + 1 = L.length) || decide (Zan L (i + 1) ≤ Zan L i)
def Zbn (L : List Line) (k : Nat) : List Nat := (List.range k).filter (Zpa L)
theorem Zwg (L : List Line) (k : Nat) : Zbn L (k + 1) = if Zpa L k then Zbn L k ++ [k] else Zbn L k := by
 unfold Zbn;rw [Ydn, Yco];cases h : Zpa L k <;> simp [h]
theorem Zkk (L : List Line) (k : Nat) : (Zbn L k).length ≤ k := by
 have := Ycc (Zpa L) (List.range k);rw [Yes] at this;exact this
theorem Zali {L : List Line} {k : Nat} (h : k + 1 = L.length) : Zpa L k = true := by unfold Zpa; rw [Yal h]; rfl
theorem Zaut {L : List Line} {k : Nat} (h1 : k + 1 < L.length) : Zpa L k = decide (L[k + 1].depth ≤ (L[k]'(by omega)).depth) := by
 unfold Zpa; rw [Yae (by omega), Bool.false_or, Zaw h1, Zaw (by omega)]
end Edt
namespace Go.Proofs.Zq
open Tryz
open Go Go.RowKit Go.Sort Tre Lx Prs Lns Edt
theorem Zagy (A : Option Addr) (cap : Nat) (L : List Line) (w : World) (hR : Rd w 3 A L.length (lines L)) (hcap : L.length ≤ cap) (hc : cap ≤ maxLen) (hr : Zab L = true) :
 Calls prog 75 #[.slice A L.length cap] w fun e w' => (∃ v, e = .returned v ∧ w'.ownsRow w.heap.size 3 1 v (Zbn L L.length).length (iv (Zbn L L.length))) ∧ Below w.heap.size w w' := by
 obtain ⟨i0, hi, hz0, hz1, hz2⟩ := info_parts Zrr;have hRi := Zbe A cap L w hR hcap hc;rw [hr] at hRi;have HRi := Zhd hRi;have h200 := Zas hr;have HR := Zhd hR;clear hR hr hRi;unfold maxLen at hc;go_enter func75, ntmps75;go_wp2_with fail;refine HRi.out.mono ?_;rintro e w1 ⟨rfl, hb1⟩;have HB1 := Zhd hb1;clear HRi hb1;go_wp2;go_loopw [3, 10] (fun v vi wr => ∃ k : Nat, vi = .int .i64 k ∧ k ≤ L.length ∧ Hid (wr.ownsRow w.heap.size 3 1 v (Zbn L k).length (iv (Zbn L k))) ∧ Hid (Below w.heap.size w wr)) (fun _ vi _ => L.length - (intOf vi).toNat)
 case atStart => exact ⟨0, rfl, Yav _, World.ownsRow_nil _ _ _ _, HB1.out⟩
 case round =>
  clear HB1;obtain ⟨k, rfl, hk, HO, HB⟩ := hrel;by_cases hlt : k < L.length
  · have hll := Zkk L k;have hst := Zhd (Zwg L k);by_cases hlast : k + 1 = L.length
    · have HS : Hid (Zbn L (k + 1) = Zbn L k ++ [k]) := by show _ = _; rw [hst.out, Zali hlast]; rfl
      have qe : (((k : Int) + 1) == (L.length : Int)) = true := by rw [beq_iff_eq]; omega
      clear hst;go_wp2_with fail;go_quiet (fail);go_wp2_with (at_builtin; refine Zfn rfl _ _ 119 rfl w _ 3 i0 _ 1 8 underlying119 hi hz0 hz1 hz2 rfl (by decide) (by decide) (Zah HO.out (Zam (Yac _ _) _)) (Zam HB.out _) rfl 1 1 [.int .i64 (k : Int)] (by show Value.slice (some ⟨_, 0, none⟩) 1 1 = _; simp) rfl (by simp; rfl) (by omega) ?_; intro v' w' hown' hb')
      have HO3 := Zhd (Zof hown');have HB3 := Zhd hb';clear hown' hb';go_wp2_with fail;go_roundw
      case rel => exact ⟨k + 1, by go_num, by omega, by rw [HS.out]; exact HO3.out, HB3.out⟩
      case measure => simp [intOf]; omega
    · have h1 : k + 1 < L.length := by omega
      have qe : (((k : Int) + 1) == (L.length : Int)) = false := by rw [Yak]; omega
      have hk1 : (k : Int) + 1 < (L.length : Int) := by omega
      have hk2 : (0 : Int) ≤ (k : Int) + 1 := by omega
      have hla := Zhd (Zaut h1);obtain ⟨B, O, rfl, hab, hadd, x0, -, -⟩ := (HR.out.below HB.out).line hlt;obtain ⟨B2, O2, e2, -, hadd2, z0, -, -⟩ := (HR.out.below HB.out).line h1;obtain ⟨rfl, rfl⟩ : B = B2 ∧ O = O2 := by cases e2; exact ⟨rfl, rfl⟩
      generalize L[k + 1].depth = d2 at *;generalize L[k].depth = d1 at *;clear e2;by_cases hd : d2 ≤ d1
      · have HS : Hid (Zbn L (k + 1) = Zbn L k ++ [k]) := by show _ = _; rw [hst.out, hla.out, Yal hd]; rfl
        clear hst hla;go_wp2_with fail;go_quiet (fail);go_wp2_with (at_builtin; refine Zfn rfl _ _ 119 rfl w _ 3 i0 _ 1 8 underlying119 hi hz0 hz1 hz2 rfl (by decide) (by decide) (Zah HO.out (Zam (Yac _ _) _)) (Zam HB.out _) rfl 1 1 [.int .i64 (k : Int)] (by show Value.slice (some ⟨_, 0, none⟩) 1 1 = _; simp) rfl (by simp; rfl) (by omega) ?_; intro v' w' hown' hb')
        have HO3 := Zhd (Zof hown');have HB3 := Zhd hb';clear hown' hb' x0 z0;go_wp2_with fail;go_roundw
        case rel => exact ⟨k + 1, by go_num, by omega, by rw [HS.out]; exact HO3.out, HB3.out⟩
        case measure => simp [intOf]; omega
      · have HS : Hid (Zbn L (k + 1) = Zbn L k) := by show _ = _; rw [hst.out, hla.out, Yae hd]; rfl
        clear hst hla;go_wp2_with fail;go_quiet (fail);go_wp2;go_roundw
        case rel => exact ⟨k + 1, by go_num, by omega, by rw [HS.out]; exact Zah HO.out (Zam (Yac _ _) _), Zam HB.out _⟩
        case measure => simp [intOf]; omega
  · have hke : k = L.length := by omega
    subst hke;go_wp2;go_ret;exact ⟨⟨_, rfl, HO.out⟩, HB.out⟩
def insMB (L : List Line) (i : Nat) (V : List Line) : List Line := L.take i ++ V ++ L.drop i
theorem Zjn (L : List Line) {i : Nat} (V : List Line) : (insMB L i V).length = L.length + V.length := by
 unfold insMB;rw [Yaj, Yaj, Yad, Yam]; omega
theorem Znx (L V : List Line) (i : Nat) : lines (insMB L i V) = lines (L.take i) ++ lines V ++ lines (L.drop i) := by
 unfold insMB;rw [Zaz, Zaz]
theorem Zaao (L V : List Line) (i : Nat) (hi : i ≤ L.length) (cur : List Value) (h : cur.take (i * 3) = lines (L.take i)) (hc : (L.length + V.length) * 3 ≤ cur.length) :
 (segs (segs cur ((i + V.length) * 3) (lines (L.drop i))) (i * 3) (lines V)).take ((L.length + V.length) * 3) = lines (insMB L i V) := by
 have h1 : (lines (L.drop i)).length = (L.length - i) * 3 := by rw [Zac, Yam]
 have hV := Zac V
 have h4 : ((segs cur ((i + V.length) * 3) (lines (L.drop i))).take (i * 3)) = lines (L.take i) := by
  unfold segs;rw [Ybl, Ycd (by rw [Yad]; omega), Ycu, Ybb (by omega), h]
 have h5 : (segs cur ((i + V.length) * 3) (lines (L.drop i))).drop (i * 3 + (lines V).length) = lines (L.drop i) ++ cur.drop ((i + V.length) * 3 + (lines (L.drop i)).length) := by
  have e : (cur.take ((i + V.length) * 3)).length = i * 3 + (lines V).length := by
   rw [Yad];omega
  unfold segs;rw [Ybl, List.drop_left' e]
 have h7 : segs (segs cur ((i + V.length) * 3) (lines (L.drop i))) (i * 3) (lines V) = lines (insMB L i V) ++ cur.drop ((i + V.length) * 3 + (lines (L.drop i)).length) := by
  rw [show segs (segs cur ((i + V.length) * 3) (lines (L.drop i))) (i * 3) (lines V) = (segs cur ((i + V.length) * 3) (lines (L.drop i))).take (i * 3) ++ lines V ++ (segs cur ((i + V.length) * 3) (lines (L.drop i))).drop (i * 3 + (lines V).length) from rfl];rw [h4, h5, Znx];simp only [Ybl]
 rw [h7, Ydt];rw [Zac, Zjn]
theorem Zzt (L V : List Line) (i : Nat) (hi : i ≤ L.length) (cur : List Value) (h : cur.take (i * 3) = lines (L.take i)) :
 (segs (segs cur (i * 3) (lines V)) ((i + V.length) * 3) (lines (L.drop i))).take ((L.length + V.length) * 3) = lines (insMB L i V) := by
 have h2 : (lines (L.take i)).length = i * 3 := by rw [Zac, Yad, Ybb hi]
 have hV := Zac V
 have h4 : (segs cur (i * 3) (lines V)).take ((i + V.length) * 3) = lines (L.take i) ++ lines V := by
  unfold segs;rw [h, Ydt];rw [Yaj, h2];omega
 have h7 : ∃ r, segs (segs cur (i * 3) (lines V)) ((i + V.length) * 3) (lines (L.drop i)) = lines (insMB L i V) ++ r := by
  refine ⟨(segs cur (i * 3) (lines V)).drop ((i + V.length) * 3 + (lines (L.drop i)).length), ?_⟩;rw [show segs (segs cur (i * 3) (lines V)) ((i + V.length) * 3) (lines (L.drop i)) = (segs cur (i * 3) (lines V)).take ((i + V.length) * 3) ++ lines (L.drop i) ++ (segs cur (i * 3) (lines V)).drop ((i + V.length) * 3 + (lines (L.drop i)).length) from rfl];rw [h4, Znx]
 obtain ⟨r, h7⟩ := h7;rw [h7, Ydt];rw [Zac, Zjn]
theorem Zqi {w : World} {k : Nat} {a : Addr} {n : Nat} {xs : List Value} (h : Rd w k (some a) n xs) : ∀ j v, xs[j]? = some v → w.cell? (a.add j) = some v := by
 intro j v hj;rcases Ybn n with h0 | h0
 · have : xs = [] := Yaq (by rw [h.1, h0, Nat.zero_mul])
   rw [this] at hj; cases hj
 · obtain ⟨ad, e, -, hx⟩ := h.2 h0;cases e;exact hx j v hj
theorem Zwi {w : World} {a : Addr} {v : Value} (h : w.cell? a = some v) : ∃ t k, w.shape? a.block = some (t, k + 1) := by
 unfold World.cell? at h;unfold World.shape?;cases hq : w.heap[a.block]? with
 | none => rw [hq] at h; cases h
 | some o =>
   rw [hq] at h;cases o with
   | cells c t z =>
     simp only at h ⊢;split at h
     · cases h
     · have := (Ybc.1 h).1;obtain ⟨k, hk⟩ : ∃ k, c.size = k + 1 := ⟨c.size - 1, by omega⟩
       exact ⟨t, k, by rw [hk]⟩
   | _ => cases h
theorem Zmt {P : Program} (w : World) (tS tR e : TypeId) (ht : P.underlying tS = some (.slice e)) (size : Nat) (hz : ∀ w, (Go.sizeOf e).run P w = .ok size w)
 (a b : Addr) (la ca lb cb : Nat) (hne : a.block ≠ b.block) (tA : TypeId) (kA : Nat) (tB : TypeId) (kB : Nat)
 (hsa : w.shape? a.block = some (tA, kA + 1)) (hsb : w.shape? b.block = some (tB, kB)) (hkB : kB ≠ 0)
 (hfb : w.frozen? b = false) (hfe : w.frozen? { block := b.block, off := kB } = false) :
 (Extern.SlicesOverlaps.overlaps #[tS, tS] #[tR] #[.slice (some a) la ca, .slice (some b) lb cb]).run P w = .ok (.bool false) w := by
 have hnb : (a.block != b.block) = true := by simpa using hne
 have hnb' : (a.block == b.block) = false := by simpa using hne
 change Sem.run P (α := Value) (do
  let some t := (#[tS, tS] : Array TypeId)[0]? | stuck "slices.overlaps: no parameter types"
  let .slice elem ← underlying t | stuck "slices.overlaps: slice type expected"
  let size ← sizeOf elem
  match (some a : Option Addr), (some b : Option Addr) with
  | some a, some b =>
    if la = 0 ∨ lb = 0 ∨ size = 0 then pure (Value.bool false)
    else if a.block != b.block && (← frozen a) && (← frozen b) then unsupported .addressObserved
    else do
     if a.block != b.block then do
      noView a; noView b
      if ← mayBeOne a b then return Value.bool ((← choose (.extern "sameAddr.stringBytes" 2)) == 1)
     pure (Value.bool (a.block == b.block && a.off < b.off + lb * size && b.off < a.off + la * size))
  | _, _ => pure (Value.bool false)) w = _
 by_cases h0 : la = 0 ∨ lb = 0 ∨ size = 0
 · simp [run_underlying ht, hz, h0]
 · cases kB with
   | zero => exact absurd rfl hkB
   | succ kB =>
     cases hfa : w.frozen? a with
     | true => simp [run_underlying ht, hz, h0, hnb, hnb', frozen, noView, viewAt, mayBeOne, stringish, shape, Sem.run, hsa, hsb, hfa, hfb, hfe]
     | false => cases hfk : w.frozen? { block := a.block, off := kA + 1 } with
       | true => simp [run_underlying ht, hz, h0, hnb, hnb', frozen, noView, viewAt, mayBeOne, stringish, shape, Sem.run, hsa, hsb, hfa, hfb, hfe, hfk]
       | false => simp [run_underlying ht, hz, h0, hnb, hnb', frozen, noView, viewAt, mayBeOne, stringish, shape, Sem.run, hsa, hsb, hfa, hfb, hfe, hfk]
theorem Zqm {w : World} {g : Nat} {cs : Array Value} {x : Addr} (h : x.block ≠ g) : (w.setRow g cs).cell? x = w.cell? x := by
 unfold World.cell?;simp only [World.setRow];rw [Ydc, Yab (fun e => h e.symm)]
theorem Zyi (w0 w : World) (g n c i vb vo m vc : Nat) (cur : Array Value) (L V : List Line) (hb : Below w0.heap.size w0 w) (hg : w0.heap.size ≤ g) (hh : w.heap[g]? = some (.cells cur 62 (0, 0))) (hn : L.length = n) (hvl : V.length = m) (hm : 0 < m) (hi : i < n) (hroom : n + m ≤ c) (hcm : c ≤ maxLen) (hsz : cur.size = c * 3) (ht : cur.toList.take (n * 3) = lines L)
 (hv : Rd w 3 (some ⟨vb, vo, none⟩) m (lines V)) (hne : vb ≠ g) :
 Calls prog 78 #[.slice (some ⟨g, 0, none⟩) n c, .int .i64 i, .slice (some ⟨vb, vo, none⟩) m vc] w fun e w' =>
  (∃ v', e = .returned v' ∧ w'.ownsRow w0.heap.size 62 3 v' (n + m) (lines (insMB L i V))) ∧ Below w0.heap.size w0 w' := by
 have hc63 : c ≤ 9223372036854775807 := by unfold maxLen at hcm; omega
 have hcl : (lines (L.drop i)).length = (n - i) * 3 := by rw [Zac, Yam, hn]
 have hVl : (lines V).length = m * 3 := by rw [Zac, hvl]
 have hcur : cur.toList.length = c * 3 := by rw [← hsz]; simp
 have hpre : cur.toList.take (i * 3) = lines (L.take i) := Zpp (by omega) (by rw [hn]; exact ht)
 have hat : ∀ j v, (lines (L.drop i))[j]? = some v → w.cell? ((⟨g, i * 3, none⟩ : Addr).add j) = some v := fun j v hj => by
  rw [Zae, cell_of_row w g _ cur _ (0, 0) hh];have hjl : j < (n - i) * 3 := by rw [← hcl]; exact (Yba.1 hj).1
  have h1 : (lines L)[i * 3 + j]? = some v := by
   rw [Zgf L i, Ybh (by rw [Zac, Yad, hn]; omega), Zac, Yad, hn, Ybb (by omega), Ydw]
   exact hj
  rw [← ht, Ycp] at h1;split at h1
  · simpa using h1
  · cases h1
 have hsrc := Zqi hv;obtain ⟨tA, kA, hsa⟩ := Zwi (hsrc 0 ((lines V)[0]'(by omega)) (Yag _))
 have hov : ∀ lb cb, (callFunc 110 #[.slice (some ⟨vb, vo, none⟩) m vc, .slice (some ⟨g, (i + m) * 3, none⟩) lb cb]).run prog w = .ok (.value (.bool false)) w := fun lb cb => by
  rw [run_callFunc_extern func110 (by kernel_rfl) (by kernel_rfl) (by kernel_rfl) (e := Extern.SlicesOverlaps.overlaps #[25, 25] #[4]) (by kernel_rfl),
   Zmt w 25 4 62 underlying25 3 Zxs ⟨vb, vo, none⟩ ⟨g, (i + m) * 3, none⟩ m vc lb cb hne tA kA 62 cur.size hsa (by simp [World.shape?, hh]) (by omega) (by simp [World.frozen?, hh]) (by simp [World.frozen?, hh])]
  rfl
 obtain ⟨cur1, hcur1⟩ : ∃ cur1, (segs cur.toList ((i + m) * 3) (lines (L.drop i))).toArray = cur1 := ⟨_, rfl⟩;have hl1 : cur1.toList.length = c * 3 := by
  rw [← hcur1];show (segs _ _ _).length = _;rw [Zgv (by rw [hcl, hcur]; omega), hcur]
 obtain ⟨w1, hw1⟩ : ∃ w1, w.drew.setRow g cur1 = w1 := ⟨_, rfl⟩;have hh1 : w1.heap[g]? = some (.cells cur1 62 (0, 0)) := by rw [← hw1]; exact setRow_heap w.drew g cur cur1 _ _ hh
 have hcp1 : ∀ ty dc sc, (Builtin.copy_ #[25, 25] ty #[.slice (some ⟨g, (i + m) * 3, none⟩) (n + m - (i + m)) dc, .slice (some ⟨g, i * 3, none⟩) (n + m - i) sc]).run prog w.drew = .ok (goInt ((n - i : Nat) : Int)) w1 := fun ty dc sc => by
  have := Zcj 3 w.drew 25 25 ty 62 g ((i + m) * 3) (n + m - (i + m)) dc ⟨g, i * 3, none⟩ (n + m - i) sc cur 62 (lines (L.drop i)) underlying25 Zgx hh (by rw [hcl]; congr 1; simp only [Ydq]; split <;> omega) hat (by rw [hcl, hsz]; omega) (Zif _)
  rw [this, show Nat.min (n + m - i) (n + m - (i + m)) = n - i by simp only [Ydq]; split <;> omega, ← hw1, ← hcur1]
  rfl
 have hsrc1 : ∀ j v, (lines V)[j]? = some v → w1.cell? ((⟨vb, vo, none⟩ : Addr).add j) = some v := fun j v hj => by
  rw [← hw1, Zqm (by rw [Zae]; exact hne)]
  exact hsrc j v hj
 have hcp2 : ∀ ty dc, (Builtin.copy_ #[25, 25] ty #[.slice (some ⟨g, i * 3, none⟩) (n + m - i) dc, .slice (some ⟨vb, vo, none⟩) m vc]).run prog w1 = .ok (goInt (m : Int)) (w1.setRow g (segs cur1.toList (i * 3) (lines V)).toArray) := fun ty dc => by
  have := Zcj 3 w1 25 25 ty 62 g (i * 3) (n + m - i) dc ⟨vb, vo, none⟩ m vc cur1 62 (lines V) underlying25 Zgx hh1 (by rw [hVl, show Nat.min m (n + m - i) = m by simp only [Ydq]; split <;> omega])
   hsrc1 (by rw [← Yaz, hl1, hVl]; omega) (Zif _)
  rw [this, show Nat.min m (n + m - i) = m by simp only [Ydq]; split <;> omega]
  rfl
 obtain ⟨w2, hw2⟩ : ∃ w2, w1.setRow g (segs cur1.toList (i * 3) (lines V)).toArray = w2 := ⟨_, rfl⟩;rw [hw2] at hcp2
 have hB : Hid (Below w0.heap.size w0 w2) := by
  show Below _ _ _;rw [← hw2, ← hw1];exact Zcw (Zcw hb.drew hg _) hg _
 have hO : Hid (w2.ownsRow w0.heap.size 62 3 (.slice (some ⟨g, 0, none⟩) (n + m) c) (n + m) (lines (insMB L i V))) := by
  refine ⟨by rw [Zac, Zjn, hn, hvl], .inr ⟨g, c, (segs cur1.toList (i * 3) (lines V)).toArray, rfl, hg, ?_, hroom, hcm, ?_, ?_⟩⟩
  · rw [← hw2]; exact setRow_heap w1 g cur1 _ _ _ hh1
  · rw [← Yaz];show (segs _ _ _).length = _;rw [Zgv (by rw [hl1, hVl]; omega), hl1]
  · show (segs cur1.toList (i * 3) (lines V)).take _ = _;rw [← hcur1, ← hn, ← hvl];exact Zaao L V i (by omega) cur.toList hpre (by rw [hcur, hn, hvl]; omega)
 have hz1 : ¬ ((m : Int) = 0) := by omega
 have hz2 : ¬ ((i : Int) = (n : Int)) := by omega
 have hw1' : IntKind.i64.wrap ((i : Int) + (m : Int)) = (i : Int) + (m : Int) := by rw [IntKind.wrap_i64]; omega
 have hz3 : ¬ ((c : Int) < (n : Int) + (m : Int)) := by omega
 have hb1 : (0 : Int) ≤ (i : Int) + (m : Int) := by omega
 have hin : i ≤ n := by omega
 have htn : ((i : Int) + (m : Int)).toNat = i + m := by omega
 have hb2 : ¬ (c = i + m) := by omega
 have hb3 : (i : Int) ≤ (n : Int) + (m : Int) := by omega
 have hb4 : ¬ (c = i) := by omega
 clear hcl hcur hpre hat hcur1 hl1 hw1 hh1 hsrc hsrc1 hw2 ht hh hv hb hsz hsa hVl;have mixed : prog.follows .mixedOrders = true := by kernel_rfl
 go_enter func78, ntmps78;go_wp2_with (simp only [hov]);go_region_law_o (refine step_copy_runI rfl _ _ 25 25 rfl _ _ (by simp [Act.eval, Act.put]) (by simp [Act.eval, Act.put]) (hcp1 _ _ _) ?_)
 go_wp2_with (at_builtin; refine wpList_copy_runI _ rfl _ _ 25 25 rfl _ _ rfl rfl (hcp2 _ _) ?_);go_ret;exact ⟨⟨_, rfl, hO.out⟩, hB.out⟩
theorem Zyb (w0 w : World) (g n c i vb vo m vc : Nat) (cur : Array Value) (L V : List Line) (hb : Below w0.heap.size w0 w) (hh : w.heap[g]? = some (.cells cur 62 (0, 0))) (hn : L.length = n) (hn9 : n ≤ 1000000) (hvl : V.length = m) (hm : 0 < m) (hm9 : m ≤ 1000000) (hi : i < n) (hnc : n ≤ c) (hroom : c < n + m) (hsz : cur.size = c * 3) (ht : cur.toList.take (n * 3) = lines L)
 (hv : Rd w 3 (some ⟨vb, vo, none⟩) m (lines V)) :
 Calls prog 78 #[.slice (some ⟨g, 0, none⟩) n c, .int .i64 i, .slice (some ⟨vb, vo, none⟩) m vc] w fun e w' =>
  (∃ v', e = .returned v' ∧ w'.ownsRow w0.heap.size 62 3 v' (n + m) (lines (insMB L i V))) ∧ Below w0.heap.size w0 w' := by
 obtain ⟨i0, hii, hz0, hzs, hzb⟩ := info_parts Zha;have hcl : (lines (L.drop i)).length = (n - i) * 3 := by rw [Zac, Yam, hn]
 have hct : (lines (L.take i)).length = i * 3 := by rw [Zac, Yad, hn, Ybb (by omega)]
 have hVl : (lines V).length = m * 3 := by rw [Zac, hvl]
 have hcur : cur.toList.length = c * 3 := by rw [← hsz]; simp
 have hpre : cur.toList.take (i * 3) = lines (L.take i) := Zpp (by omega) (by rw [hn]; exact ht)
 have hgw : g < w.heap.size := (Ybc.1 hh).1
 have hold : (Builtin.firstCells i0.size i (.slice (some ⟨g, 0, none⟩) i c)).run prog w.drew = .ok (lines (L.take i)).toArray w.drew := by
  rw [hzs]
  exact run_firstCells_some w.drew 3 i ⟨g, 0, none⟩ i c (lines (L.take i)) hct (fun j v hj => by
   rw [Zae, Ybf];show w.cell? _ = _;rw [cell_of_row w g _ cur _ (0, 0) hh];rw [← hpre, Ycp] at hj;split at hj
   · simpa using hj
   · cases hj)
 have hkk : (n : Int) + (m : Int) - (i : Int) = ((n + m - i : Nat) : Int) := by omega
 have hik : i + (n + m - i) = n + m := by omega
 have hrz : ∀ ty, (Builtin.append_ #[25, 3] ty #[.slice (some ⟨g, 0, none⟩) i c, .int .i64 ((n : Int) + (m : Int) - (i : Int))]).run prog w =
  .ok (.slice (some ⟨w.heap.size, 0, none⟩) (n + m) (grownCap w (n + m) c 62)) (w.drew.alloc (.cells ((lines (L.take i)).toArray ++ Builtin.zeroCells (Value.agg #[.int .i64 0, .string ⟨#[]⟩, .int .i64 0]).cells (n + m - i) ++ Builtin.zeroCells (Value.agg #[.int .i64 0, .string ⟨#[]⟩, .int .i64 0]).cells (grownCap w (n + m) c 62 - (n + m))) 62)) := fun ty => by
  have h := Lib.run_append_grow_zeros w 25 3 ty 62 i0 _ .i64 .i64 underlying25 underlying3 hii hz0 (some ⟨g, 0, none⟩) i c (lines (L.take i)) hold (n + m - i) (by omega) (by omega) (by omega) (by omega) (by rw [hzb]; omega) (by rw [hzb, hik]; exact growslice_fits hroom (by omega))
  rw [hik] at h;rw [hkk];exact h
 obtain ⟨G, hG⟩ : ∃ G, G = grownCap w (n + m) c 62 := ⟨_, rfl⟩;have hGn : n + m ≤ G := by rw [hG]; exact grownCap_ge w _ _ _
 have hGm : G ≤ maxLen := by rw [hG]; exact grownCap_le_maxLen w (n + m) c 62 (by unfold maxLen; omega)
 rw [← hG] at hrz;obtain ⟨ROW, hROW⟩ : ∃ ROW : Array Value, ROW = (lines (L.take i)).toArray ++ Builtin.zeroCells (Value.agg #[.int .i64 0, .string ⟨#[]⟩, .int .i64 0]).cells (n + m - i) ++ Builtin.zeroCells (Value.agg #[.int .i64 0, .string ⟨#[]⟩, .int .i64 0]).cells (G - (n + m)) := ⟨_, rfl⟩;rw [← hROW] at hrz;have hRs : ROW.size = G * 3 := by
  rw [hROW, Array.size_append, Array.size_append, Zkq, Zkq, Yee, hct]; omega
 have hRl : ROW.toList.length = G * 3 := by rw [← hRs]; simp
 have hRt : ROW.toList.take (i * 3) = lines (L.take i) := by
  rw [hROW, Array.toList_append, Array.toList_append, Ybl, ← hct];exact List.take_left
 obtain ⟨W1, hW1⟩ : ∃ W1, w.drew.alloc (.cells ROW 62) = W1 := ⟨_, rfl⟩;rw [hW1] at hrz;obtain ⟨N, hN⟩ : ∃ N, w.heap.size = N := ⟨_, rfl⟩;have hh1 : W1.heap[N]? = some (.cells ROW 62 (0, 0)) := by rw [← hW1, ← hN]; exact heap_alloc_new w.drew _
 have hBw : Below w.heap.size w W1 := by rw [← hW1]; exact (Yac w.heap.size w).drew.alloc (Yaf _) _
 have hg1 : W1.heap[g]? = some (.cells cur 62 (0, 0)) := by
  rw [← hW1, heap_alloc_old (r := g) w.drew _ hgw]; exact hh
 obtain ⟨w2, hw2⟩ : ∃ w2, W1.setRow N (segs ROW.toList (i * 3) (lines V)).toArray = w2 := ⟨_, rfl⟩;have hl1 : (segs ROW.toList (i * 3) (lines V)).length = G * 3 := by rw [Zgv (by rw [hRl, hVl]; omega), hRl]
 have hcpA : ∀ ty dc, (Builtin.copy_ #[25, 25] ty #[.slice (some ⟨N, i * 3, none⟩) (n + m - i) dc, .slice (some ⟨vb, vo, none⟩) m vc]).run prog W1 = .ok (goInt (m : Int)) w2 := fun ty dc => by
  have := Zcj 3 W1 25 25 ty 62 N (i * 3) (n + m - i) dc ⟨vb, vo, none⟩ m vc ROW 62 (lines V) underlying25 Zgx hh1 (by rw [hVl, show Nat.min m (n + m - i) = m by simp only [Ydq]; split <;> omega])
   (Zqi (hv.below hBw)) (by rw [hRs, hVl]; omega) (Zif _)
  rw [this, show Nat.min m (n + m - i) = m by simp only [Ydq]; split <;> omega, ← hw2]
  rfl
 have hNg : N ≠ g := by omega
 have hh2 : w2.heap[N]? = some (.cells (segs ROW.toList (i * 3) (lines V)).toArray 62 (0, 0)) := by rw [← hw2]; exact setRow_heap W1 N ROW _ _ _ hh1
 have hg2 : w2.heap[g]? = some (.cells cur 62 (0, 0)) := by
  rw [← hw2, ← hg1];simp only [World.setRow];rw [Ydc, Yab hNg]
 have hat : ∀ j v, (lines (L.drop i))[j]? = some v → w2.drew.cell? ((⟨g, i * 3, none⟩ : Addr).add j) = some v := fun j v hj => by
  rw [Zae];show w2.cell? _ = _;rw [cell_of_row w2 g _ cur _ (0, 0) hg2];have hjl : j < (n - i) * 3 := by rw [← hcl]; exact (Yba.1 hj).1
  have h1 : (lines L)[i * 3 + j]? = some v := by
   rw [Zgf L i, Ybh (by rw [hct]; omega), hct, Ydw]
   exact hj
  rw [← ht, Ycp] at h1;split at h1
  · simpa using h1
  · cases h1
 obtain ⟨w3, hw3⟩ : ∃ w3, w2.drew.setRow N (segs (segs ROW.toList (i * 3) (lines V)) ((i + m) * 3) (lines (L.drop i))).toArray = w3 := ⟨_, rfl⟩
 have hcpB : ∀ ty dc sc, (Builtin.copy_ #[25, 25] ty #[.slice (some ⟨N, (i + m) * 3, none⟩) (n + m - (i + m)) dc, .slice (some ⟨g, i * 3, none⟩) (n - i) sc]).run prog w2.drew = .ok (goInt ((n - i : Nat) : Int)) w3 := fun ty dc sc => by
  have := Zcj 3 w2.drew 25 25 ty 62 N ((i + m) * 3) (n + m - (i + m)) dc ⟨g, i * 3, none⟩ (n - i) sc (segs ROW.toList (i * 3) (lines V)).toArray 62 (lines (L.drop i)) underlying25 Zgx hh2 (by rw [hcl]; congr 1; simp only [Ydq]; split <;> omega) hat (by rw [hcl, Yee, hl1]; omega) (Zif _)
  rw [this, show Nat.min (n - i) (n + m - (i + m)) = n - i by simp only [Ydq]; split <;> omega, ← hw3]
  rfl
 have hB1 : Below w0.heap.size w0 W1 := by rw [← hW1]; exact hb.drew.alloc hb.drew.size _
 have hN0 : w0.heap.size ≤ N := by rw [← hN]; exact hb.size
 have hB : Hid (Below w0.heap.size w0 w3) := by
  show Below _ _ _;rw [← hw3];refine Zcw (Below.drew ?_) hN0 _;rw [← hw2];exact Zcw hB1 hN0 _
 have hO : Hid (w3.ownsRow w0.heap.size 62 3 (.slice (some ⟨N, 0, none⟩) (n + m) G) (n + m) (lines (insMB L i V))) := by
  refine ⟨by rw [Zac, Zjn, hn, hvl], .inr ⟨N, G, (segs (segs ROW.toList (i * 3) (lines V)) ((i + m) * 3) (lines (L.drop i))).toArray, rfl, hN0, ?_, hGn, hGm, ?_, ?_⟩⟩
  · rw [← hw3]; exact setRow_heap w2.drew N _ _ _ _ hh2
  · rw [Yee, Zgv (by rw [hl1, hcl]; omega), hl1]
  · show (segs _ _ _).take _ = _;rw [← hn, ← hvl];exact Zzt L V i (by omega) ROW.toList hRt
 rw [hN] at hrz;have hz1 : ¬ ((m : Int) = 0) := by omega
 have hz2 : ¬ ((i : Int) = (n : Int)) := by omega
 have hw1' : IntKind.i64.wrap ((i : Int) + (m : Int)) = (i : Int) + (m : Int) := by rw [IntKind.wrap_i64]; omega
 have hz3 : (c : Int) < (n : Int) + (m : Int) := by omega
 have hb1 : (0 : Int) ≤ (i : Int) + (m : Int) := by omega
 have hin : i ≤ n := by omega
 have htn : ((i : Int) + (m : Int)).toNat = i + m := by omega
 have hG63 : G ≤ 9223372036854775807 := by unfold maxLen at hGm; omega
 have hGi : ¬ (G = i) := by omega
 have hGim : ¬ (G = i + m) := by omega
 have hci : ¬ (c = i) := by omega
 have hb3 : (i : Int) ≤ (n : Int) := by omega
 clear hkk hik hold hROW hG hRl hRs hRt hW1 hN hh1 hBw hg1 hw2 hl1 hh2 hg2 hat hw3 hB1 hN0 hcl hct hcur hpre hgw ht hh hv hb hsz hVl;have mixed : prog.follows .mixedOrders = true := by kernel_rfl
 go_enter func78, ntmps78;go_wp2_with (first | (at_builtin; refine Lib.wpList_append_run _ rfl _ _ _ _ rfl _ _ rfl rfl _ _ (hrz _) ?_) | (at_builtin; refine wpList_copy_runI _ rfl _ _ 25 25 rfl _ _ rfl rfl (hcpA _ _) ?_))
 go_region_law_o (refine step_copy_runI rfl _ _ 25 25 rfl _ _ (by simp [Act.eval, Act.put]) (by simp [Act.eval, Act.put]) (hcpB _ _ _) ?_)
 go_wp2;go_ret;exact ⟨⟨_, rfl, hO.out⟩, hB.out⟩
theorem Zzk (w0 w : World) (v : Value) (n vb vo m vc : Nat) (L V : List Line) (hb : Below w0.heap.size w0 w) (hown : w.ownsRow w0.heap.size 62 3 v n (lines L)) (hn : L.length = n) (hn9 : n ≤ 1000000) (hvl : V.length = m) (hm : 0 < m) (hm9 : m ≤ 1000000)
 (hv : Rd w 3 (some ⟨vb, vo, none⟩) m (lines V)) :
 Calls prog 78 #[v, .int .i64 n, .slice (some ⟨vb, vo, none⟩) m vc] w fun e w' =>
  (∃ v', e = .returned v' ∧ w'.ownsRow w0.heap.size 62 3 v' (n + m) (lines (insMB L n V))) ∧ Below w0.heap.size w0 w' := by
 obtain ⟨i0, hii, hz0, hz1, hz2⟩ := info_parts Zha;have HO := Zhd hown;have HB := Zhd hb;have HV := Zhd (Zqi hv)
 have HIL : Hid (lines (insMB L n V) = lines L ++ lines V) := by
  show _ = _;rw [Znx, ← hn, Ybw, Ydh];show lines L ++ lines V ++ [] = _;rw [Ybg]
 have hVl : (lines V).length = m * 3 := by rw [Zac, hvl]
 have hN : (n + m) * 32 ≤ 140737488355328 := by omega
 have hM : n + m ≤ maxLen := by unfold maxLen; omega
 have hm1 : ¬ ((m : Int) = 0) := by omega
 have HF := hown.2;have HLT : Hid (∀ q, v.ownBlock = some q → w0.heap.size ≤ q) := fun q hq => (hown.lt q hq).1
 have HVc := Zhd (Zif V);clear hown hb hv hn;rcases HF with ⟨rfl, rfl⟩ | ⟨g, c, cur, rfl, -, -, hnc, hcm, -, -⟩
 · go_enter func78, ntmps78;go_wp2_with (at_builtin; refine wpList_append_own _ rfl _ _ 25 rfl w0.heap.size 62 i0 _ 3 32 underlying25 hii hz0 hz1 hz2 rfl (by decide) _ 0 (lines L) rfl HO.out ⟨vb, vo, none⟩ m vc (lines V) rfl hVl HV.out HVc.out hM hN HB.out.size ?_; intro v' w' hown' hg _)
   go_ret;exact ⟨⟨_, rfl, by rw [HIL.out]; exact hown'⟩, HB.out.grown hg HB.out.size fun q hq => HLT.out q hq⟩
 · have hc63 : c ≤ 9223372036854775807 := by unfold maxLen at hcm; omega
   go_enter func78, ntmps78;go_wp2_with (at_builtin; refine wpList_append_own _ rfl _ _ 25 rfl w0.heap.size 62 i0 _ 3 32 underlying25 hii hz0 hz1 hz2 rfl (by decide) _ n (lines L) rfl HO.out ⟨vb, vo, none⟩ m vc (lines V) rfl hVl HV.out HVc.out hM hN HB.out.size ?_; intro v' w' hown' hg _)
   all_goals
    go_ret;exact ⟨⟨_, rfl, by rw [HIL.out]; exact hown'⟩, HB.out.grown hg HB.out.size fun q hq => HLT.out q hq⟩
theorem Zzm (w0 w : World) (v : Value) (i vb vo vc : Nat) (L V : List Line) (hb : Below w0.heap.size w0 w) (hown : w.ownsRow w0.heap.size 62 3 v L.length (lines L)) (hi : i ≤ L.length) (hn9 : L.length ≤ 1000000) (hm : 0 < V.length) (hm9 : V.length ≤ 1000000)
 (hv : Rd w 3 (some ⟨vb, vo, none⟩) V.length (lines V)) (hne : v.ownBlock ≠ some vb) :
 Calls prog 78 #[v, .int .i64 i, .slice (some ⟨vb, vo, none⟩) V.length vc] w fun e w' =>
  (∃ v', e = .returned v' ∧ w'.ownsRow w0.heap.size 62 3 v' (insMB L i V).length (lines (insMB L i V))) ∧ Below w0.heap.size w0 w' := by
 rw [Zjn];by_cases hie : i = L.length
 · subst hie;exact Zzk w0 w v _ vb vo _ vc L V hb hown rfl hn9 rfl hm hm9 hv
 · rcases hown.2 with ⟨rfl, h0⟩ | ⟨g, c, cur, rfl, hg, hh, hnc, hcm, hsz, ht⟩
   · omega
   · have hne2 : vb ≠ g := fun e => hne (by rw [e]; rfl)
     by_cases hr : L.length + V.length ≤ c
     · exact Zyi w0 w g _ c i vb vo _ vc cur L V hb hg hh rfl rfl hm (by omega) hr hcm hsz ht hv hne2
     · exact Zyb w0 w g _ c i vb vo _ vc cur L V hb hh rfl hn9 rfl hm hm9 (by omega) hnc (by omega) hsz ht hv
theorem Zzp (q n c i : Nat) (Av : Option Addr) (vc : Nat) (w : World) (hi : i ≤ n) (hnc : n ≤ c) (hcm : c ≤ maxLen) :
 Calls prog 78 #[.slice (some ⟨q, 0, none⟩) n c, .int .i64 i, .slice Av 0 vc] w fun e w' => e = .returned (.slice (some ⟨q, 0, none⟩) n c) ∧ w' = w := by
 have hc63 : c ≤ 9223372036854775807 := by unfold maxLen at hcm; omega
 by_cases hcc : c = i
 · subst hcc;obtain rfl : n = c := by omega
   go_enter func78, ntmps78;go_wp2;go_ret;exact ⟨rfl, rfl⟩
 · go_enter func78, ntmps78;go_wp2;go_ret;exact ⟨rfl, rfl⟩
end Go.Proofs.Zq
