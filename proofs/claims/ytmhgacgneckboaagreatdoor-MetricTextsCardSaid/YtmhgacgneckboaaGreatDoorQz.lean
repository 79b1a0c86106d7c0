/- A walk: a number as a decimal of the library. A walk: the library's decimals, shifted. -/
import Derived.Test.YtmhgacgneckboaaGreatDoorQx
import Derived.Test.YtmhgacgneckboaaGreatDoorQy
namespace Go.Proofs.YtmhgacgneckboaaGreatDoor
open Go Go.RowKit Dcp Go.Sort Adr
structure Buf (w : World) (q : Nat) (F : Nat → Nat) : Prop where
  byt : ∀ j, j < 24 → w.cell? ⟨q, j, none⟩ = some (.int .u8 (F j : Nat))
  fr : ∀ j, w.frozen? ⟨q, j, none⟩ = false
theorem set_off {W : World} {b o b' o' : Nat} {v u : Value} (hne : b ≠ b') (h : W.cell? ⟨b', o', none⟩ = some u) : (W.setCell ⟨b, o, none⟩ v).cell? ⟨b', o', none⟩ = some u :=
  (World.cell?_setCell_other _ _ _ _ (by intro e; simp only [Addr.mk.injEq] at e; omega)).trans h
theorem Buf.set {w : World} {q : Nat} {F : Nat → Nat} (h : Buf w q F) {i : Nat} (x : Nat) : Buf (w.setCell ⟨q, i, none⟩ (.int .u8 x)) q (upd F i x) :=
  ⟨fun j hj => by
    by_cases e : j = i
    · subst e; rw [upd_same]; exact World.cell?_setCell_same _ _ _ (h.byt j hj)
    · rw [upd_other e]; exact set_ne (Ne.symm e) (h.byt j hj), fun j => by rw [World.frozen?_setCell]; exact h.fr j⟩
theorem Buf.other {w : World} {q b : Nat} {F : Nat → Nat} (h : Buf w q F) (hb : b ≠ q) (i : Nat) (v : Value) : Buf (w.setCell ⟨b, i, none⟩ v) q F :=
  ⟨fun j hj => set_off hb (h.byt j hj), fun j => by rw [World.frozen?_setCell]; exact h.fr j⟩
theorem Dec.other {w0 w : World} {B : Nat} {D : Nat → Nat} {n : Nat} {p : Int} (h : Dec w0 w B D n p) {b : Nat} (hb : b ≠ B) (hb2 : w0.heap.size ≤ b) (i : Nat) (v : Value) : Dec w0 (w.setCell ⟨b, i, none⟩ v) B D n p :=
  ⟨h.bel.setCell hb2 _, h.old, by simpa using h.lt, fun j hj => set_off hb (h.byt j hj), set_off hb h.nd, set_off hb h.dp, fun j => by rw [World.frozen?_setCell]; exact h.fr j, h.small⟩
set_option maxHeartbeats 1000000 in
set_option maxRecDepth 100000 in
theorem assign_any (w0 w : World) (B : Nat) (D : Nat → Nat) (v n : Nat) (p : Int) (h : Dec w0 w B D n p) (hv : 1000000000000000 ≤ v) (hv2 : v < 10000000000000000) :
    Calls Tryz.prog 97 #[.pointer (some ⟨B, 0, none⟩), .int .u64 v] w fun e w' => e = .returned (.tuple #[]) ∧ ∃ (D' : Nat → Nat) (n' : Nat), Dec w0 w' B D' n' 16 ∧ 1 ≤ n' ∧ n' ≤ 16 ∧ Dgt D' 0 n' ∧ 49 ≤ D' 0 := by
  have H0 := Lib.hid h
  clear h
  go_enter Tryz.func97, Tryz.ntmps97
  go_wp2_with fail
  obtain ⟨q, hqq⟩ : ∃ q, w.heap.size = q := ⟨_, rfl⟩
  obtain ⟨wo, hwo⟩ : ∃ wo, w.alloc (.cells #[.int .u8 0, .int .u8 0, .int .u8 0, .int .u8 0, .int .u8 0, .int .u8 0, .int .u8 0, .int .u8 0, .int .u8 0, .int .u8 0, .int .u8 0, .int .u8 0, .int .u8 0, .int .u8 0, .int .u8 0, .int .u8 0, .int .u8 0, .int .u8 0, .int .u8 0, .int .u8 0, .int .u8 0, .int .u8 0, .int .u8 0, .int .u8 0] 113) = wo := ⟨_, rfl⟩
  rw [hwo, hqq]
  have hbo : Below w.heap.size w wo := by rw [← hwo]; exact (Below.refl _ _).alloc (Nat.le_refl _) _
  have HDo := Lib.hid (H0.out.below hbo)
  have HBo : Hid (Buf wo q (fun _ => 0)) := by
    show Buf _ _ _
    rw [← hwo, ← hqq]
    refine ⟨fun j hj => ?_, fun j => World.frozen?_alloc_new _ _ _ _⟩
    rw [World.cell?_alloc_at _ _ _ _ rfl]
    exact Lib.zeros24_at j hj
  have hqB : q ≠ B := by have := H0.out.lt; omega
  have hBq : B ≠ q := Ne.symm hqB
  have hqs : w0.heap.size ≤ q := by have := H0.out.lt; have := H0.out.old; omega
  have HP : Hid (∀ i, i ≤ 16 → (0 < v / 10 ^ i ↔ i < 16)) := fun i hi => by
    constructor
    · intro h1
      rcases Nat.lt_or_ge i 16 with h2 | h2
      · exact h2
      · obtain rfl : i = 16 := by omega
        have : v / 10 ^ 16 = 0 := Nat.div_eq_of_lt hv2
        omega
    · intro h1
      refine Nat.div_pos ?_ (Nat.pow_pos (by decide))
      have : 10 ^ i ≤ 10 ^ 15 := Nat.pow_le_pow_right (by decide) (by omega)
      have h3 : (10 : Nat) ^ 15 = 1000000000000000 := rfl
      omega
  clear hbo hwo hqq H0
  go_loopw [1, 5] (fun v1 v5 wr => ∃ (i y : Nat) (F : Nat → Nat), v1 = .int .u64 y ∧ v5 = .int .i64 i ∧ i ≤ 16 ∧ y < 10000000000000000 ∧ Hid (v / 10 ^ i = y) ∧ Hid (∀ j, j < i → F j = v / 10 ^ j % 10 + 48) ∧ Hid (Buf wr q F) ∧ Hid (Dec w0 wr B D n p)) (fun _ v5 _ => 16 - (intOf v5).toNat)
  case atStart => exact ⟨0, v, _, rfl, rfl, by omega, hv2, (by show v / 10 ^ 0 = v; rw [Nat.pow_zero, Nat.div_one]), (fun j h => absurd h (by omega)), HBo, HDo⟩
  case round =>
    clear HBo HDo
    obtain ⟨i, y, F, rfl, rfl, hi, hy, HY, HF, HBf, HD⟩ := hrel
    have hpos := HP.out i hi
    rw [HY.out] at hpos
    rcases Nat.eq_zero_or_pos y with hy0 | hy0
    · subst hy0
      obtain rfl : i = 16 := by omega
      have HFl : Hid (F 15 = v / 10 ^ 15 % 10 + 48) := HF.out 15 (by omega)
      have HF15 : Hid (49 ≤ F 15) := by
        show _ ≤ _
        rw [HFl.out]
        have h3 : (10 : Nat) ^ 15 = 1000000000000000 := rfl
        rw [h3]; omega
      have HFd : Hid (∀ j, j < 16 → 48 ≤ F j ∧ F j ≤ 57) := fun j hj => by rw [HF.out j hj]; omega
      have HD0' := HD.out.setN 0
      have cnd := HD.out.nd
      have fnd := HD.out.fr 800
      have HD0 := Lib.hid HD0'
      have HB0 := Lib.hid (HBf.out.other hBq 800 (.int .i64 ((0 : Nat) : Int)))
      clear HY HF hpos HD0' HFl HD HBf hy
      go_wp2_with fail
      go_loopw [5] (fun v5 wr => ∃ (m : Nat) (z : Int) (E : Nat → Nat), v5 = .int .i64 z ∧ Hid (z = 15 - (m : Int)) ∧ m ≤ 16 ∧ Hid (Dec w0 wr B E m p) ∧ Hid (Buf wr q F) ∧ Hid (∀ j, j < m → E j = F (15 - j))) (fun v5 _ => (intOf v5 + 1).toNat)
      case atStart => exact ⟨0, _, D, rfl, rfl, by omega, HD0, HB0, (fun j h => absurd h (by omega))⟩
      case round =>
        clear HD0 HB0 cnd fnd
        obtain ⟨m, z, E, rfl, hz, hm, HD, HBf, HE⟩ := hrel
        have cnd := HD.out.nd
        have fnd := HD.out.fr 800
        by_cases hm16 : m < 16
        · obtain ⟨x, hx⟩ : ∃ x, 15 - m = x := ⟨_, rfl⟩
          obtain rfl : z = (x : Int) := by have := hz.out; omega
          have c1 := HBf.out.byt x (by omega)
          have c2 := HD.out.byt m (by omega)
          have f2 := HD.out.fr m
          have hx24 : x < 24 := by omega
          have hm8 : m < 800 := by omega
          obtain ⟨y, hy⟩ : ∃ y, F x = y := ⟨_, rfl⟩
          rw [hy] at c1
          have HD1' := HD.out.drew.set hm8 y (by have := HFd.out x (by omega); omega)
          have cnd1 := HD1'.nd
          have fnd1 := HD1'.fr 800
          have HD2 : Hid (Dec w0 ((wr.drew.setCell ⟨B, m, none⟩ (.int .u8 y)).setCell ⟨B, 800, none⟩ (.int .i64 ((m : Int) + 1))) B (upd E m y) (m + 1) p) := by
            show Dec _ _ _ _ _ _
            have := HD1'.setN (m + 1)
            simpa using this
          have HBr : Buf wr.drew q F := ⟨HBf.out.byt, HBf.out.fr⟩
          have HB2 := Lib.hid ((HBr.other hBq m (.int .u8 y)).other hBq 800 (.int .i64 ((m : Int) + 1)))
          have HE2 : Hid (∀ j, j < m + 1 → upd E m y j = F (15 - j)) := fun j hj => by
            by_cases e : j = m
            · subst e; rw [upd_same, hx, hy]
            · rw [upd_other e]; exact HE.out j (by omega)
          have hxz : (0 : Int) ≤ (x : Int) := by omega
          have hxm := Lib.hid hx
          generalize E m = u at *
          clear HD HBf HE HD1' hz hy hx HBr
          go_wp2_with fail
          go_region_with (fail)
          all_goals
            go_wp2_with fail
            go_roundw
            case rel => first | exact ⟨m + 1, _, _, rfl, (by have := hxm.out; show _ = _; omega), by omega, HD2, HB2, HE2⟩ | ((repeat apply Exists.intro); exact ⟨⟨m + 1, _, _, rfl, (by have := hxm.out; show _ = _; omega), by omega, HD2, HB2, HE2⟩, rfl⟩)
            case measure => simp [intOf]
        · obtain rfl : m = 16 := by omega
          obtain rfl : z = -1 := by have := hz.out; omega
          have cdp := HD.out.dp
          have fdp := HD.out.fr 801
          have HEd : Dgt E 0 16 := fun j _ hj => by rw [HE.out j hj]; exact HFd.out _ (by omega)
          have HE0 : 49 ≤ E 0 := by rw [HE.out 0 (by omega)]; exact HF15.out
          have HT := Lib.hid (trimD_any w0 _ B E 16 _ (HD.out.setP 16) (by omega) (by omega) HE0)
          have HEd2 := Lib.hid HEd
          have HE02 := Lib.hid HE0
          clear HEd HE0 HE HBf HFd HF15 hz
          go_wp2_with fail
          refine HT.out.mono ?_
          rintro e w2 ⟨rfl, m2, hm1, hm2, h4⟩
          have HD4 := Lib.hid h4
          clear h4 HT
          go_wp2_with fail
          go_end0
          exact ⟨rfl, E, m2, HD4.out, hm1, hm2, (fun j h1 h2 => HEd2.out j h1 (by omega)), HE02.out⟩
    · have hi16 : i < 16 := hpos.1 hy0
      have c2 := HBf.out.byt i (by omega)
      have f2 := HBf.out.fr i
      have hi24 : i < 24 := by omega
      obtain ⟨a, ha⟩ : ∃ a, y / 10 = a := ⟨_, rfl⟩
      obtain ⟨ρ, hρ⟩ : ∃ ρ, y % 10 = ρ := ⟨_, rfl⟩
      have hqi : (y : Int) / 10 = (a : Int) := by omega
      have hri : (y : Int) - 10 * (a : Int) = (ρ : Int) := by omega
      have hρ9 : ρ ≤ 9 := by omega
      have hy1 : (0 : Int) < (y : Int) := by omega
      have HY2 : Hid (v / 10 ^ (i + 1) = a) := by
        show _ = _
        rw [Nat.pow_succ, ← Nat.div_div_eq_div_mul, HY.out, ha]
      have HF2 : Hid (∀ j, j < i + 1 → upd F i (ρ + 48) j = v / 10 ^ j % 10 + 48) := fun j hj => by
        by_cases e : j = i
        · subst e; rw [upd_same, HY.out, hρ]
        · rw [upd_other e]; exact HF.out j (by omega)
      have HB2 : Hid (Buf (wr.setCell ⟨q, i, none⟩ (.int .u8 ((ρ : Int) + 48))) q (upd F i (ρ + 48))) := by
        show Buf _ _ _
        have := HBf.out.set (i := i) (ρ + 48)
        simpa using this
      have HD2 := Lib.hid (HD.out.other hqB hqs i (.int .u8 ((ρ : Int) + 48)))
      generalize F i = u at *
      clear HY HF HBf HD hpos ha hρ
      go_wp2_with fail
      go_roundw
      case rel => exact ⟨i + 1, a, _, rfl, by go_num, by omega, by omega, HY2, HF2, HB2, HD2⟩
      case measure => simp [intOf]; omega
end Go.Proofs.YtmhgacgneckboaaGreatDoor

namespace Go.Proofs.YtmhgacgneckboaaGreatDoor
open Go Go.RowKit Dcp Go.Sort Adr
def ShEnd (w0 : World) (B : Nat) (e : Ending) (w' : World) : Prop := e = .returned (.tuple #[]) ∧ ∃ (D' : Nat → Nat) (n' p' : Nat), Dec w0 w' B D' n' p' ∧ 1 ≤ n' ∧ n' ≤ p' + 3 ∧ 1 ≤ p' ∧ p' ≤ 400
set_option maxHeartbeats 1000000 in
set_option maxRecDepth 100000 in
theorem shiftL_any (w0 w : World) (B : Nat) (D : Nat → Nat) (n k : Nat) (hE : EnvL w0) (h : Dec w0 w B D n 16) (hn : 1 ≤ n) (hn2 : n ≤ 16) (hD : Dgt D 0 n) (h0 : 49 ≤ D 0) (hk : 1 ≤ k) (hk2 : k ≤ 971) :
    Calls Tryz.prog 98 #[.pointer (some ⟨B, 0, none⟩), .int .i64 k] w (ShEnd w0 B) := by
  have H0 := Lib.hid h
  have HD0 := Lib.hid hD
  have HE := Lib.hid hE
  have cnd := h.nd
  have hn0 : ((n : Int) == 0) = false := by rw [beq_eq_false_iff_ne]; omega
  have hk0 : (0 : Int) < (k : Int) := by omega
  have hkp : 0 < k := by omega
  have HL : Hid (∀ (wr : World) (D : Nat → Nat) (n p k : Nat), Dec w0 wr B D n p → 1 ≤ n → n ≤ p → p ≤ 700 → Dgt D 0 n → 49 ≤ D 0 → 1 ≤ k → k ≤ 60 → Calls Tryz.prog 131 #[.pointer (some ⟨B, 0, none⟩), .int .u64 k] wr fun e w' => e = .returned (.tuple #[]) ∧ ∃ (D' : Nat → Nat) (n' p' : Nat), Dec w0 w' B D' n' p' ∧ 1 ≤ n' ∧ n' ≤ p' ∧ p' ≤ p + 19 ∧ Dgt D' 0 n' ∧ 49 ≤ D' 0) := fun wr D n p k h h1 h2 h3 h4 h5 h6 h7 => leftShift_any w0 wr B D n k p h (HE.out.below h.bel) h1 h2 h3 h4 h5 h6 h7
  clear h hD hE
  go_enter Tryz.func98, Tryz.ntmps98
  go_wp2_with fail
  go_loopw [1] (fun v1 wr => ∃ (k p n : Nat) (D : Nat → Nat), v1 = .int .i64 k ∧ 1 ≤ k ∧ k ≤ 971 ∧ 60 * p + 19 * k ≤ 19409 ∧ 1 ≤ n ∧ n ≤ p ∧ 49 ≤ D 0 ∧ 1 ≤ p ∧ Hid (Dgt D 0 n) ∧ Hid (Dec w0 wr B D n p)) (fun v1 _ => (intOf v1).toNat)
  case atStart => exact ⟨k, 16, n, D, rfl, hk, hk2, by omega, hn, hn2, h0, by omega, HD0, H0⟩
  case round =>
    clear H0 HD0 cnd hk0
    obtain ⟨k, p, n, D, rfl, hk, hk2, hpk, hn, hnp, h0, hp1, HDg, H1⟩ := hrel
    by_cases h60 : 60 < k
    · obtain ⟨k2, hk2e⟩ : ∃ k2, k - 60 = k2 := ⟨_, rfl⟩
      have h60i : (60 : Int) < (k : Int) := by omega
      have hki : (k : Int) - 60 = (k2 : Int) := by omega
      have hkm : k2 + 60 ≤ k ∧ k ≤ k2 + 60 := by omega
      obtain ⟨hkm1, hkm2⟩ := hkm
      clear hk2e
      have HC : Hid (Calls Tryz.prog 131 #[.pointer (some ⟨B, 0, none⟩), .int .u64 60] wr fun e w' => e = .returned (.tuple #[]) ∧ ∃ (D' : Nat → Nat) (n' p' : Nat), Dec w0 w' B D' n' p' ∧ 1 ≤ n' ∧ n' ≤ p' ∧ p' ≤ p + 19 ∧ Dgt D' 0 n' ∧ 49 ≤ D' 0) := HL.out wr D n p 60 H1.out hn hnp (by omega) HDg.out h0 (by omega) (by omega)
      go_wp2_with fail
      refine HC.out.mono ?_
      rintro e w2 ⟨rfl, D2, n2, p2, g1, g2, g3, g4, g5, g6⟩
      have HG1 := Lib.hid g1
      have HG5 := Lib.hid g5
      clear HC g1 g5
      go_wp2_with fail
      go_roundw
      case rel => first | exact ⟨k2, p2, n2, D2, by go_num, by omega, by omega, by omega, g2, g3, g6, by omega, HG5, HG1⟩ | ((repeat apply Exists.intro); exact ⟨⟨k2, p2, n2, D2, rfl, by omega, by omega, by omega, g2, g3, g6, by omega, HG5, HG1⟩, rfl⟩)
      case measure => simp [intOf]; omega
    · have h60i : ¬ (60 : Int) < (k : Int) := by omega
      have HC := Lib.hid (HL.out wr D n p k H1.out hn hnp (by omega) HDg.out h0 hk (by omega))
      go_wp2_with fail
      refine HC.out.mono ?_
      rintro e w2 ⟨rfl, D2, n2, p2, g1, g2, g3, g4, g5, g6⟩
      have HG1 := Lib.hid g1
      clear HC g1 g5
      go_wp2_with fail
      go_end0
      exact ⟨rfl, D2, n2, p2, HG1.out, g2, by omega, by omega, by omega⟩
set_option maxHeartbeats 1000000 in
theorem shiftZ_any (w0 w : World) (B : Nat) (D : Nat → Nat) (n : Nat) (h : Dec w0 w B D n 16) (hn : 1 ≤ n) (hn2 : n ≤ 16) :
    Calls Tryz.prog 98 #[.pointer (some ⟨B, 0, none⟩), .int .i64 0] w (ShEnd w0 B) := by
  have H0 := Lib.hid h
  have cnd := h.nd
  have hn0 : ((n : Int) == 0) = false := by rw [beq_eq_false_iff_ne]; omega
  clear h
  go_enter Tryz.func98, Tryz.ntmps98
  go_wp2_with fail
  go_end0
  exact ⟨rfl, D, n, 16, H0.out, hn, by omega, by omega, by omega⟩
set_option maxHeartbeats 1000000 in
theorem shiftR1_any (w0 w : World) (B : Nat) (D : Nat → Nat) (n : Nat) (h : Dec w0 w B D n 16) (hn : 1 ≤ n) (hn2 : n ≤ 16) (hD : Dgt D 0 n) (h0 : 49 ≤ D 0) :
    Calls Tryz.prog 98 #[.pointer (some ⟨B, 0, none⟩), .int .i64 (-1)] w (ShEnd w0 B) := by
  have HC := Lib.hid (right1_any w0 w B D n 16 h hn (by omega) hn2 (by omega) (by omega) hD h0)
  have cnd := h.nd
  have hn0 : ((n : Int) == 0) = false := by rw [beq_eq_false_iff_ne]; omega
  clear h hD
  go_enter Tryz.func98, Tryz.ntmps98
  go_wp2_with fail
  go_loopw [1] (fun v1 wr => v1 = .int .i64 (-1) ∧ wr = w) (fun _ _ => 0)
  case atStart => exact ⟨rfl, rfl⟩
  case round =>
    obtain ⟨rfl, rfl⟩ := hrel
    go_wp2_with fail
    refine HC.out.mono ?_
    rintro e w2 ⟨rfl, D2, n2, p2, g1, g2, g3, g4, g5⟩
    have HG1 := Lib.hid g1
    clear HC g1
    go_wp2_with fail
    go_end0
    exact ⟨rfl, D2, n2, p2, HG1.out, g2, g3, g4, by omega⟩
set_option maxHeartbeats 1000000 in
theorem shiftR2_any (w0 w : World) (B : Nat) (D : Nat → Nat) (n : Nat) (h : Dec w0 w B D n 16) (hn : 1 ≤ n) (hn2 : n ≤ 16) (hD : Dgt D 0 n) (h0 : 49 ≤ D 0) :
    Calls Tryz.prog 98 #[.pointer (some ⟨B, 0, none⟩), .int .i64 (-2)] w (ShEnd w0 B) := by
  have HC := Lib.hid (right2_any w0 w B D n 16 h hn (by omega) hn2 (by omega) (by omega) hD h0)
  have cnd := h.nd
  have hn0 : ((n : Int) == 0) = false := by rw [beq_eq_false_iff_ne]; omega
  clear h hD
  go_enter Tryz.func98, Tryz.ntmps98
  go_wp2_with fail
  go_loopw [1] (fun v1 wr => v1 = .int .i64 (-2) ∧ wr = w) (fun _ _ => 0)
  case atStart => exact ⟨rfl, rfl⟩
  case round =>
    obtain ⟨rfl, rfl⟩ := hrel
    go_wp2_with fail
    refine HC.out.mono ?_
    rintro e w2 ⟨rfl, D2, n2, p2, g1, g2, g3, g4, g5⟩
    have HG1 := Lib.hid g1
    clear HC g1
    go_wp2_with fail
    go_end0
    exact ⟨rfl, D2, n2, p2, HG1.out, g2, g3, g4, by omega⟩
set_option maxHeartbeats 1000000 in
theorem shiftR3_any (w0 w : World) (B : Nat) (D : Nat → Nat) (n : Nat) (h : Dec w0 w B D n 16) (hn : 1 ≤ n) (hn2 : n ≤ 16) (hD : Dgt D 0 n) (h0 : 49 ≤ D 0) :
    Calls Tryz.prog 98 #[.pointer (some ⟨B, 0, none⟩), .int .i64 (-3)] w (ShEnd w0 B) := by
  have HC := Lib.hid (right3_any w0 w B D n 16 h hn (by omega) hn2 (by omega) (by omega) hD h0)
  have cnd := h.nd
  have hn0 : ((n : Int) == 0) = false := by rw [beq_eq_false_iff_ne]; omega
  clear h hD
  go_enter Tryz.func98, Tryz.ntmps98
  go_wp2_with fail
  go_loopw [1] (fun v1 wr => v1 = .int .i64 (-3) ∧ wr = w) (fun _ _ => 0)
  case atStart => exact ⟨rfl, rfl⟩
  case round =>
    obtain ⟨rfl, rfl⟩ := hrel
    go_wp2_with fail
    refine HC.out.mono ?_
    rintro e w2 ⟨rfl, D2, n2, p2, g1, g2, g3, g4, g5⟩
    have HG1 := Lib.hid g1
    clear HC g1
    go_wp2_with fail
    go_end0
    exact ⟨rfl, D2, n2, p2, HG1.out, g2, g3, g4, by omega⟩
end Go.Proofs.YtmhgacgneckboaaGreatDoor
