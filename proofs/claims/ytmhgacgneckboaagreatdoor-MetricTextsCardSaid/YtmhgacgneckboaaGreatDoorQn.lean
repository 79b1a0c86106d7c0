/- Walks: metric.Least and metric.Sum of a list. A walk: the fixed answer of layer 11. -/
import Derived.Test.YtmhgacgneckboaaGreatDoorQl
import Derived.Test.YtmhgacgneckboaaGreatDoorQb
import Derived.Test.YtmhgacgneckboaaGreatDoorQm
namespace Mtr
open Go Ieee Fta
/-- A list of floats in memory. -/
def fv (l : List Nat) : List Value := l.map fun k : Nat => Value.float .f64 k
theorem fv_len (P : List Nat) : (fv P).length = P.length := by unfold fv; simp
theorem fv_get {P : List Nat} {j : Nat} (h : j < P.length) : (fv P)[j]? = some (.float .f64 P[j]) := by unfold fv; simp [h]
/-- The place of the least of the first k. -/
def leastTo (l : List Nat) : Nat → Option Nat
  | 0 => none
  | k + 1 => match leastTo l k with
    | none => some k
    | some a => if aheadB (l.getD k 0) (l.getD a 0) then some k else some a
def leastI (l : List Nat) (k : Nat) : Int := match leastTo l k with | none => -1 | some a => (a : Int)
def AddR (acc x r : Nat) : Prop := double.add acc x = some r ∨ (double.add acc x = none ∧ nanB r = true ∧ r < 18446744073709551616)
/-- A sum of the first k. -/
def SumTo (l : List Nat) : Nat → Nat → Prop
  | 0, r => r = 0
  | k + 1, r => ∃ a, SumTo l k a ∧ AddR a (l.getD k 0) r
theorem least_some {l : List Nat} : ∀ {k a : Nat}, leastTo l k = some a → a < k
  | 0, _, h => by cases h
  | k + 1, a, h => by
    unfold leastTo at h
    split at h
    · injection h with h; omega
    · rename_i c hc
      have := least_some hc
      split at h
      · injection h with h; omega
      · injection h with h; omega
theorem leastI_none {l : List Nat} {k : Nat} (h : leastTo l k = none) : leastI l k = -1 ∧ leastI l (k + 1) = (k : Int) := by
  have h2 : leastTo l (k + 1) = some k := by rw [leastTo, h]
  unfold leastI; rw [h, h2]; exact ⟨rfl, rfl⟩
theorem leastI_some {l : List Nat} {k a : Nat} (h : leastTo l k = some a) : leastI l k = (a : Int) ∧ leastI l (k + 1) = if aheadB (l.getD k 0) (l.getD a 0) then (k : Int) else (a : Int) := by
  have h2 : leastTo l (k + 1) = if aheadB (l.getD k 0) (l.getD a 0) then some k else some a := by rw [leastTo, h]
  unfold leastI; rw [h, h2]
  refine ⟨rfl, ?_⟩
  cases aheadB (l.getD k 0) (l.getD a 0) <;> rfl
end Mtr
namespace Go.Proofs.YtmhgacgneckboaaGreatDoor
open Go Go.RowKit Mtr Ieee Fta
theorem Rd.fltAt {w : World} {A : Option Addr} {P : List Nat} (h : Rd w 1 A P.length (fv P)) {i : Nat} (hi : i < P.length) :
    ∃ B O, A = some ⟨B, O, none⟩ ∧ B < w.heap.size ∧ (⟨B, O, none⟩ : Addr).add i = ⟨B, O + i, none⟩ ∧ w.cell? ⟨B, O + i, none⟩ = some (.float .f64 P[i]) := by
  obtain ⟨ad, e, hb, hx⟩ := h.2 (by omega)
  have h0 := hx i _ (fv_get hi)
  have hs : ad.spot = none := by
    have h00 := hx 0 _ (fv_get (by omega : 0 < P.length))
    exact World.cell?_spot h00
  obtain ⟨B, O, sp⟩ := ad
  obtain rfl : sp = none := hs
  rw [add_plain] at h0
  exact ⟨B, O, e, hb, add_plain _ _ _, h0⟩
set_option maxHeartbeats 1000000 in
set_option maxRecDepth 100000 in
theorem least_any (A : Option Addr) (cap : Nat) (l : List Nat) (w : World) (hR : Rd w 1 A l.length (fv l)) (hcap : l.length ≤ cap) (hc : cap ≤ maxLen) (hl : ∀ x ∈ l, x < 18446744073709551616) :
    Calls Tryz.prog 22 #[.slice A l.length cap] w fun e w' => e = .returned (.int .i64 (leastI l l.length)) ∧ Below w.heap.size w w' := by
  have HR := Lib.hid hR
  have HL := Lib.hid hl
  unfold maxLen at hc
  clear hR hl
  have h60 : (l.length : Int) ≤ 9223372036854775807 := by omega
  go_enter Tryz.func22, Tryz.ntmps22
  go_wp2_with fail
  go_loopw [3, 8] (fun va vi wr => ∃ k : Nat, k ≤ l.length ∧ vi = .int .i64 k ∧ va = .int .i64 (leastI l k) ∧ ∃ q, wr = w.drewN q) (fun _ vi _ => l.length - (intOf vi).toNat)
  case atStart => exact ⟨0, by omega, rfl, rfl, 0, rfl⟩
  case round =>
    obtain ⟨k, hk, rfl, rfl, q, rfl⟩ := hrel
    by_cases hkl : k < l.length
    · obtain ⟨B, O, rfl, hB, hadd, y0⟩ := HR.out.fltAt hkl
      have hfk := HL.out _ (List.getElem_mem hkl)
      have hgk : l.getD k 0 = l[k] := by rw [List.getD_eq_getElem?_getD, List.getElem?_eq_getElem hkl]; rfl
      cases hla : leastTo l k with
      | none =>
        obtain ⟨e1, e2⟩ := leastI_none hla
        have HE2 := Lib.hid e2
        rw [e1]
        clear e1 e2 hla hgk
        generalize l[k] = fk at *
        go_wp2_with fail
        go_roundw
        case rel => exact ⟨k + 1, by omega, by go_num, by rw [HE2.out], _, rfl⟩
        case measure => simp [intOf]; omega
      | some a =>
        have hak := least_some hla
        obtain ⟨e1, e2⟩ := leastI_some hla
        have hal : a < l.length := by omega
        have hga : l.getD a 0 = l[a] := by rw [List.getD_eq_getElem?_getD, List.getElem?_eq_getElem hal]; rfl
        have hfa := HL.out _ (List.getElem_mem hal)
        obtain ⟨B2, O2, hA2, -, hadd2, y2⟩ := HR.out.fltAt hal
        injection hA2 with hA2
        injection hA2 with hBB hOO
        subst hBB hOO
        rw [hgk, hga] at e2
        rw [e1]
        have HE2 := Lib.hid e2
        clear e1 e2 hgk hga hla
        have HC := Lib.hid (fun w => less_any l[k] l[a] w hfk hfa)
        generalize aheadB l[k] l[a] = ab at *
        generalize l[k] = fk at *
        generalize l[a] = fa at *
        clear hfk hfa
        have ha0 : decide ((a : Int) < 0) = false := decide_eq_false (by omega)
        go_wp2_with fail
        refine (HC.out _).mono ?_
        rintro e w' ⟨rfl, rfl⟩
        cases ab with
        | true =>
          go_wp2_with fail
          go_roundw
          case rel => exact ⟨k + 1, by omega, by go_num, by rw [HE2.out]; simp, _, rfl⟩
          case measure => simp [intOf]; omega
        | false =>
          go_wp2_with fail
          go_roundw
          case rel => exact ⟨k + 1, by omega, by go_num, by rw [HE2.out]; simp, _, rfl⟩
          case measure => simp [intOf]; omega
    · obtain rfl : k = l.length := by omega
      go_wp2_with fail
      go_ret
      exact ⟨rfl, below_drews _⟩
theorem add_some {acc x s : Nat} (h : double.add acc x = some s) (w : World) : (binOp .add 22 (.float .f64 acc) (.float .f64 x)).run Tryz.prog w = .ok (.float .f64 s) w := run_float_arith w .add _ .f64 _ _ _ h
/-- The number that stands for an answer that is none, by the tape. -/
def nanCut (acc x : Nat) (w : World) : Nat := Question.cut (.nanBits .f64 acc x) (w.tape w.drawn (.nanBits .f64 acc x))
theorem add_none {acc x : Nat} (h : double.add acc x = none) (w : World) : (binOp .add 22 (.float .f64 acc) (.float .f64 x)).run Tryz.prog w = .ok (.float .f64 (nanCut acc x w)) w.drew := by
  have h2 : FloatKind.f64.format.add acc x = none := h
  simp [binOp, Op.floatArith, h2, Question.forced, nanCut]
theorem nanCut_nan (acc x : Nat) (w : World) : nanB (nanCut acc x w) = true ∧ nanCut acc x w < 18446744073709551616 := by
  have h : nanCut acc x w = (w.tape w.drawn (.nanBits .f64 acc x) % 2) * 9223372036854775808 + 9218868437227405312 + 1 + (w.tape w.drawn (.nanBits .f64 acc x) / 2) % 4503599627370495 := rfl
  have h1 : w.tape w.drawn (.nanBits .f64 acc x) % 2 < 2 := Nat.mod_lt _ (by decide)
  have h2 : (w.tape w.drawn (.nanBits .f64 acc x) / 2) % 4503599627370495 < 4503599627370495 := Nat.mod_lt _ (by decide)
  generalize w.tape w.drawn (.nanBits .f64 acc x) % 2 = s at *
  generalize (w.tape w.drawn (.nanBits .f64 acc x) / 2) % 4503599627370495 = u at *
  generalize nanCut acc x w = b at *
  rw [nanB_rung]
  unfold rungB
  exact ⟨decide_eq_true (by omega), by omega⟩
set_option maxHeartbeats 1000000 in
set_option maxRecDepth 100000 in
theorem sum_any (A : Option Addr) (cap : Nat) (l : List Nat) (w : World) (hR : Rd w 1 A l.length (fv l)) (hcap : l.length ≤ cap) (hc : cap ≤ maxLen) :
    Calls Tryz.prog 24 #[.slice A l.length cap] w fun e w' => (∃ r, e = .returned (.float .f64 r) ∧ SumTo l l.length r) ∧ Below w.heap.size w w' := by
  have HR := Lib.hid hR
  unfold maxLen at hc
  clear hR
  have h60 : (l.length : Int) ≤ 9223372036854775807 := by omega
  go_enter Tryz.func24, Tryz.ntmps24
  go_wp2_with fail
  go_loopw [3, 8] (fun va vi wr => ∃ k r : Nat, k ≤ l.length ∧ vi = .int .i64 k ∧ va = .float .f64 r ∧ Hid (SumTo l k r) ∧ ∃ q, wr = w.drewN q) (fun _ vi _ => l.length - (intOf vi).toNat)
  case atStart => exact ⟨0, 0, by omega, rfl, rfl, rfl, 0, rfl⟩
  case round =>
    obtain ⟨k, acc, hk, rfl, rfl, HS, q, rfl⟩ := hrel
    by_cases hkl : k < l.length
    · obtain ⟨B, O, rfl, hB, hadd, y0⟩ := HR.out.fltAt hkl
      have hgk : l.getD k 0 = l[k] := by rw [List.getD_eq_getElem?_getD, List.getElem?_eq_getElem hkl]; rfl
      cases hf : double.add acc l[k] with
      | some s =>
        have HS2 : Hid (SumTo l (k + 1) s) := ⟨acc, HS.out, by rw [hgk]; exact Or.inl hf⟩
        have hq := add_some hf
        clear hf HS hgk
        generalize l[k] = fk at *
        go_wp2_with fail
        go_roundw
        case rel => exact ⟨k + 1, s, by omega, by go_num, rfl, HS2, _, rfl⟩
        case measure => simp [intOf]; omega
      | none =>
        have HS2 : Hid (∀ w, SumTo l (k + 1) (nanCut acc l[k] w)) := fun w => ⟨acc, HS.out, by rw [hgk]; exact Or.inr ⟨hf, nanCut_nan _ _ w⟩⟩
        have hq := add_none hf
        clear hf HS hgk
        generalize l[k] = fk at *
        go_wp2_with fail
        go_roundw
        case rel => exact ⟨k + 1, _, by omega, by go_num, rfl, HS2.out _, _, rfl⟩
        case measure => simp [intOf]; omega
    · obtain rfl : k = l.length := by omega
      go_wp2_with fail
      go_ret
      exact ⟨⟨_, rfl, HS.out⟩, below_drews _⟩
end Go.Proofs.YtmhgacgneckboaaGreatDoor

namespace Mtr
open Go Go.Lib Ieee Fta Adr
theorem awk_ot1 : ofT false 1500 = 4609434218613702656 := by decide +kernel
theorem awk_ot2 : ofT true 0 = 9223372036854775808 := by
  have e : thou 0 = 0 := by unfold thou; rw [thou_zero, Option.getD_some]
  unfold ofT; rw [e]; rfl
theorem awk_t1 : sgn false ++ textL 1500 = [49, 46, 53] := by
  unfold textL
  rw [show 1500 % 1000 = 500 by decide, show 1500 / 1000 = 1 by decide, decDigits_one (by decide), show fracL 500 = [53] by decide +kernel]; rfl
theorem awk_t2 : sgn true ++ textL 0 = [45, 48] := by
  unfold textL
  rw [show 0 % 1000 = 0 by decide, show 0 / 1000 = 0 by decide, decDigits_one (by decide), show fracL 0 = [] by decide +kernel]; rfl
theorem awk_r1 : readV [45, 48] = 9223372036854775808 ∧ readOk [45, 48] = true := by
  have h := awk_t2
  have h2 := Go.Proofs.YtmhgacgneckboaaGreatDoor.text_val true 0 (by decide)
  rw [h, awk_ot2] at h2
  exact h2
theorem awk_r2 : readV [49, 46, 53, 48] = 0 ∧ readOk [49, 46, 53, 48] = false := by decide +kernel
theorem awk_a1 : aheadB 9223372036854775808 0 = true := by decide +kernel
theorem awk_a2 : aheadB 0 9223372036854775808 = false := by decide +kernel
theorem awk_l : leastI [4611686018427387904, 9223372036854775808, 0] 3 = 1 := by decide +kernel
theorem awk_k1 : rankB 0 = 0 := by decide +kernel
theorem awk_k2 : rankB 9223372036854775808 = -1 := by decide +kernel
theorem awk_s {r : Nat} (h : SumTo [4607182418800017408, 4611686018427387904] 2 r) : r = 4613937818241073152 := by
  obtain ⟨a, ⟨b, h0, h1⟩, h2⟩ := h
  have h0 : b = 0 := h0
  subst h0
  have e1 : double.add 0 4607182418800017408 = some 4607182418800017408 := by decide +kernel
  have e2 : double.add 4607182418800017408 4611686018427387904 = some 4613937818241073152 := by decide +kernel
  have h1 : AddR 0 4607182418800017408 a := h1
  have h2 : AddR a 4611686018427387904 r := h2
  unfold AddR at h1
  rw [e1] at h1
  rcases h1 with h1 | ⟨h1, -⟩
  · injection h1 with h1
    subst h1
    unfold AddR at h2
    rw [e2] at h2
    rcases h2 with h2 | ⟨h2, -⟩
    · injection h2 with h2; exact h2.symm
    · cases h2
  · cases h1
end Mtr
namespace Go.Proofs.YtmhgacgneckboaaGreatDoor
open Go Go.RowKit Mtr Ieee Fta
theorem rd_litF (w : World) (P : List Nat) (T : TypeId) : Rd (w.alloc (.cells (fv P).toArray T)) 1 (some ⟨w.heap.size, 0, none⟩) P.length (fv P) :=
  ⟨by rw [fv_len]; simp, fun _ => ⟨_, rfl, by simp, fun j u hu => by
    rw [add_plain, Nat.zero_add, World.cell?_alloc_at _ _ _ _ rfl]; simpa using hu⟩⟩
set_option maxHeartbeats 2000000 in
set_option maxRecDepth 100000 in
theorem awake11_any (w : World) (hE : EnvF w) : Calls Tryz.prog 16 #[] w fun e w' => e = .returned (.bool true) ∧ Below w.heap.size w w' := by
  have HE : Hid (∀ w', Below w.heap.size w w' → EnvF w') := fun w' h => hE.below h
  have HRa : Hid (∀ w', Env w' → Calls Tryz.prog 17 #[.string ⟨#[45, 48]⟩] w' fun e w2 => e = .returned (.tuple #[.float .f64 9223372036854775808, .bool true]) ∧ Below w'.heap.size w' w2) := fun w' h => by
    have := read_val ⟨#[45, 48]⟩ w' h (by decide)
    unfold ReadEndV at this
    rw [show (⟨#[45, 48]⟩ : ByteArray).data.toList = [45, 48] from rfl, awk_r1.1, awk_r1.2] at this
    exact this
  have HRb : Hid (∀ w', Env w' → Calls Tryz.prog 17 #[.string ⟨#[49, 46, 53, 48]⟩] w' fun e w2 => e = .returned (.tuple #[.float .f64 0, .bool false]) ∧ Below w'.heap.size w' w2) := fun w' h => by
    have := read_val ⟨#[49, 46, 53, 48]⟩ w' h (by decide)
    unfold ReadEndV at this
    rw [show (⟨#[49, 46, 53, 48]⟩ : ByteArray).data.toList = [49, 46, 53, 48] from rfl, awk_r2.1, awk_r2.2] at this
    exact this
  have HTa : Hid (∀ w', EnvF w' → Calls Tryz.prog 20 #[.float .f64 4609434218613702656] w' fun e w2 => e = .returned (.tuple #[.string ⟨#[49, 46, 53]⟩, .bool true]) ∧ Below w'.heap.size w' w2) := fun w' h => by
    have := text_thou 1500 (by decide) false w' h
    rw [awk_ot1, awk_t1] at this
    exact this
  have HTb : Hid (∀ w', EnvF w' → Calls Tryz.prog 20 #[.float .f64 9223372036854775808] w' fun e w2 => e = .returned (.tuple #[.string ⟨#[45, 48]⟩, .bool true]) ∧ Below w'.heap.size w' w2) := fun w' h => by
    have := text_thou 0 (by decide) true w' h
    rw [awk_ot2, awk_t2] at this
    exact this
  have HLa := Lib.hid (fun w => less_any 9223372036854775808 0 w (by decide) (by decide))
  have HLb := Lib.hid (fun w => less_any 0 9223372036854775808 w (by decide) (by decide))
  rw [awk_a1] at HLa
  rw [awk_a2] at HLb
  have HKa := Lib.hid (fun w => rank_any 0 w (by decide))
  have HKb := Lib.hid (fun w => rank_any 9223372036854775808 w (by decide))
  rw [awk_k1] at HKa
  rw [awk_k2] at HKb
  have q2 : ∀ w, (binOp .quo 22 (.float .f64 4607182418800017408) (.float .f64 9223372036854775808)).run Tryz.prog w = .ok (.float .f64 18442240474082181120) w := fun w => run_float_arith w .quo _ .f64 _ _ _ (by decide +kernel)
  have o2 : (FloatKind.f64.format.order 18442240474082181120 0 == some .lt) = true := by decide +kernel
  have o3 : (FloatKind.f64.format.order 4613937818241073152 4613937818241073152 == some .eq) = true := by decide +kernel
  have HLe : Hid (∀ W : World, Calls Tryz.prog 22 #[.slice (some ⟨W.heap.size, 0, none⟩) 3 3] (W.alloc (.cells #[.float .f64 4611686018427387904, .float .f64 9223372036854775808, .float .f64 0] 22)) fun e w2 => e = .returned (.int .i64 1) ∧ Below W.heap.size W w2) := fun W => by
    refine (least_any (some ⟨W.heap.size, 0, none⟩) 3 [4611686018427387904, 9223372036854775808, 0] _ (rd_litF W [4611686018427387904, 9223372036854775808, 0] _) (by decide) (by unfold maxLen; omega) (by decide)).mono ?_
    rintro e w2 ⟨rfl, hb⟩
    refine ⟨by rw [show ([4611686018427387904, 9223372036854775808, 0] : List Nat).length = 3 from rfl, awk_l], ((Below.refl _ _).alloc (Nat.le_refl _) _).trans (hb.mono (by simp))⟩
  have HSu : Hid (∀ W : World, Calls Tryz.prog 24 #[.slice (some ⟨W.heap.size, 0, none⟩) 2 2] (W.alloc (.cells #[.float .f64 4607182418800017408, .float .f64 4611686018427387904] 22)) fun e w2 => e = .returned (.float .f64 4613937818241073152) ∧ Below W.heap.size W w2) := fun W => by
    refine (sum_any (some ⟨W.heap.size, 0, none⟩) 2 [4607182418800017408, 4611686018427387904] _ (rd_litF W [4607182418800017408, 4611686018427387904] _) (by decide) (by unfold maxLen; omega)).mono ?_
    rintro e w2 ⟨⟨r, rfl, hr⟩, hb⟩
    refine ⟨by rw [awk_s hr], ((Below.refl _ _).alloc (Nat.le_refl _) _).trans (hb.mono (by simp))⟩
  clear hE
  go_enter Tryz.func16, Tryz.ntmps16
  go_wp2_with fail
  refine (HRa.out _ (HE.out _ (Below.refl _ _)).env).mono ?_
  rintro e w1 ⟨rfl, hb1⟩
  have HB1 := Lib.hid hb1
  clear hb1
  go_wp2_with fail
  refine (HTa.out _ (HE.out _ HB1.out)).mono ?_
  rintro e w2 ⟨rfl, hb2⟩
  have HB2 := Lib.hid (below_step HB1.out hb2)
  clear hb2 HB1
  go_wp2_with fail
  refine (HTb.out _ (HE.out _ HB2.out)).mono ?_
  rintro e w3 ⟨rfl, hb3⟩
  have HB3 := Lib.hid (below_step HB2.out hb3)
  clear hb3 HB2
  go_wp2_with fail
  refine (HRb.out _ (HE.out _ HB3.out).env).mono ?_
  rintro e w4 ⟨rfl, hb4⟩
  have HB4 := Lib.hid (below_step HB3.out hb4)
  clear hb4 HB3
  go_wp2_with fail
  refine (HLa.out _).mono ?_
  rintro e w' ⟨rfl, rfl⟩
  go_wp2_with fail
  refine (HLb.out _).mono ?_
  rintro e w' ⟨rfl, rfl⟩
  go_wp2_with fail
  refine (HLe.out _).mono ?_
  rintro e w5 ⟨rfl, hb5⟩
  have HB5 := Lib.hid (below_step HB4.out hb5)
  clear hb5 HB4
  go_wp2_with fail
  refine (HKa.out _).mono ?_
  rintro e w' ⟨rfl, rfl⟩
  go_wp2_with fail
  refine (HKb.out _).mono ?_
  rintro e w' ⟨rfl, rfl⟩
  go_wp2_with fail
  refine (HSu.out _).mono ?_
  rintro e w6 ⟨rfl, hb6⟩
  have HB6 := Lib.hid (below_step HB5.out hb6)
  clear hb6 HB5
  go_wp2_with fail
  go_ret
  exact ⟨rfl, HB6.out⟩
end Go.Proofs.YtmhgacgneckboaaGreatDoor
