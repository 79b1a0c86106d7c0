/- Walks: the functions that only reckon: rest, right, In, Power, Right, In of the references. -/
import Derived.Test.YtlojeeakjgalpaaDoorProg
import Derived.WalkKit
import Derived.WalkSpells
import Derived.WalkLawsBesides
import Derived.BigQuiet
import Derived.Deep.QuietTactic
import Derived.Lib.Hide
import Derived.Test.YtlojeeakjgalpaaDoorBits
import Derived.Test.YtlojeeakjgalpaaDoorMac
namespace Go.Proofs.YtlojeeakjgalpaaDoor
open Go.RowKit

theorem ret_int {k : IntKind} {a b : Int} (h : a = b) : Ending.returned (.int k a) = .returned (.int k b) := by rw [h]
theorem ret_bool {a b : Bool} (h : a = b) : Ending.returned (.bool a) = .returned (.bool b) := by rw [h]
theorem ret_str {a b : ByteArray} (h : a = b) : Ending.returned (.string a) = .returned (.string b) := by rw [h]

set_option maxHeartbeats 400000 in
theorem rest_any (n : Int) (w : World) (h0 : 0 ≤ n) (h : n ≤ 32) :
    Calls Tryd.prog 22 #[.int .i64 n] w fun e w' => e = .returned (.int .i64 (Adr.restV n)) ∧ w = w' := by
  go_enter Tryd.func22, Tryd.ntmps22
  go_wp2
  go_ret
  exact ⟨ret_int (Adr.rest_val n h0 h), rfl⟩

set_option maxHeartbeats 400000 in
theorem right_any (n b : Int) (w : World) :
    Calls Tryd.prog 21 #[.int .i64 n, .int .i64 b] w fun e w' => e = .returned (.bool (Adr.right n b)) ∧ w = w' := by
  by_cases h : 0 ≤ n ∧ n < 4294967296 ∧ 0 ≤ b ∧ b ≤ 32
  · obtain ⟨h0, h1, h2, h3⟩ := h
    have he := Adr.right_bits n b h0 h1 h2 h3
    go_enter Tryd.func21, Tryd.ntmps21
    go_wp2_with (go_at_call 22; refine (rest_any _ _ (by omega) (by omega)).mono ?_; rintro e w' ⟨rfl, rfl⟩)
    go_ret
    exact ⟨rfl, rfl⟩
  · have he := Adr.right_not h
    by_cases h0 : 0 ≤ n
    · by_cases h1 : n < 4294967296
      · by_cases h2 : 0 ≤ b
        · have h3 : 32 < b := by omega
          clear h
          go_enter Tryd.func21, Tryd.ntmps21
          go_wp2
          go_ret
          exact ⟨rfl, rfl⟩
        · have h2 : b < 0 := by omega
          clear h
          go_enter Tryd.func21, Tryd.ntmps21
          go_wp2
          go_ret
          exact ⟨rfl, rfl⟩
      · have h1 : 4294967296 ≤ n := by omega
        clear h
        go_enter Tryd.func21, Tryd.ntmps21
        go_wp2
        go_ret
        exact ⟨rfl, rfl⟩
    · have h0 : n < 0 := by omega
      clear h
      go_enter Tryd.func21, Tryd.ntmps21
      go_wp2
      go_ret
      exact ⟨rfl, rfl⟩

set_option maxHeartbeats 400000 in
theorem in_any (n b ip : Int) (w : World) :
    Calls Tryd.prog 10 #[.int .i64 n, .int .i64 b, .int .i64 ip] w fun e w' => e = .returned (.bool (Adr.isIn n b ip)) ∧ w = w' := by
  cases hr : Adr.right n b with
  | false =>
    have He := Lib.hid (Adr.isIn_not (n := n) (b := b) (ip := ip) (by rw [hr]; simp))
    have Hr := Lib.hid hr; clear hr
    go_enter Tryd.func10, Tryd.ntmps10
    go_wp2_with (go_at_call 21; refine (right_any _ _ _).mono ?_; rintro e w' ⟨rfl, rfl⟩; rw [Hr.out])
    go_ret
    exact ⟨ret_bool He.out.symm, rfl⟩
  | true =>
    obtain ⟨n0, n1, b0, b1, _⟩ := Adr.right_bd hr
    by_cases h : 0 ≤ ip ∧ ip < 4294967296
    · obtain ⟨h0, h1⟩ := h
      have He := Lib.hid (Adr.in_bits n b ip hr h0 h1)
      have Hr := Lib.hid hr; clear hr
      go_enter Tryd.func10, Tryd.ntmps10
      go_wp2_with (first | (go_at_call 21; refine (right_any _ _ _).mono ?_; rintro e w' ⟨rfl, rfl⟩; rw [Hr.out]) | (go_at_call 22; refine (rest_any _ _ (by omega) (by omega)).mono ?_; rintro e w' ⟨rfl, rfl⟩))
      go_ret
      exact ⟨ret_bool He.out, rfl⟩
    · have He := Lib.hid (Adr.isIn_not (n := n) (b := b) (ip := ip) (by rintro ⟨_, x, y⟩; exact h ⟨x, y⟩))
      have Hr := Lib.hid hr; clear hr
      by_cases h0 : 0 ≤ ip
      · have h1 : 4294967296 ≤ ip := by omega
        clear h
        go_enter Tryd.func10, Tryd.ntmps10
        go_wp2_with (go_at_call 21; refine (right_any _ _ _).mono ?_; rintro e w' ⟨rfl, rfl⟩; rw [Hr.out])
        go_ret
        exact ⟨ret_bool He.out.symm, rfl⟩
      · have h0 : ip < 0 := by omega
        clear h
        go_enter Tryd.func10, Tryd.ntmps10
        go_wp2_with (go_at_call 21; refine (right_any _ _ _).mono ?_; rintro e w' ⟨rfl, rfl⟩; rw [Hr.out])
        go_ret
        exact ⟨ret_bool He.out.symm, rfl⟩

set_option maxHeartbeats 400000 in
theorem power_any (n : Int) (w : World) (h0 : 0 ≤ n) (h : n ≤ 32) :
    Calls Tryd.prog 35 #[.int .i64 n] w fun e w' => e = .returned (.int .i64 (Adr.pw n)) ∧ w = w' := by
  obtain ⟨m, rfl⟩ := Int.eq_ofNat_of_zero_le h0
  have hm : m ≤ 32 := by omega
  clear h h0
  go_enter Tryd.func35, Tryd.ntmps35
  go_wp2
  go_loop [3, 4] (fun o i => ∃ k : Nat, k ≤ m ∧ i = .int .i64 k ∧ o = .int .i64 (Adr.pw k)) (fun _ i => m - (intOf i).toNat)
  case atStart => exact ⟨0, Nat.zero_le _, rfl, rfl⟩
  case round =>
    obtain ⟨k, hk, rfl, rfl⟩ := hrel
    have hp := Adr.pw_bd k (by omega)
    have HS := Lib.hid (Adr.pw_succ k)
    by_cases hlt : k < m
    · go_wp2
      go_round
      case rel => exact ⟨k + 1, by omega, by go_num, by rw [HS.out]⟩
      case measure => simp [intOf]; omega
    · have hk2 : k = m := by omega
      have Hk := Lib.hid hk2; clear hk2
      go_wp2
      go_ret
      exact ⟨ret_int (by rw [Hk.out]), rfl⟩

set_option maxHeartbeats 400000 in
theorem refRight_any (n b : Int) (w : World) :
    Calls Tryd.prog 34 #[.int .i64 n, .int .i64 b] w fun e w' => e = .returned (.bool (Adr.right n b)) ∧ w = w' := by
  by_cases h : 0 ≤ n ∧ n < 4294967296 ∧ 0 ≤ b ∧ b ≤ 32
  · obtain ⟨h0, h1, h2, h3⟩ := h
    have He := Lib.hid (Adr.right_pw n b h0 h1 h2 h3)
    have hp := Adr.pw_bd' (32 - b) (by omega) (by omega)
    go_enter Tryd.func34, Tryd.ntmps34
    go_wp2_with (go_at_call 35; refine (power_any _ _ (by omega) (by omega)).mono ?_; rintro e w' ⟨rfl, rfl⟩)
    go_ret
    exact ⟨ret_bool He.out, rfl⟩
  · have He := Lib.hid (Adr.right_not h)
    by_cases h0 : 0 ≤ n
    · by_cases h1 : n < 4294967296
      · by_cases h2 : 0 ≤ b
        · have h3 : 32 < b := by omega
          clear h
          go_enter Tryd.func34, Tryd.ntmps34
          go_wp2
          go_ret
          exact ⟨ret_bool He.out.symm, rfl⟩
        · have h2 : b < 0 := by omega
          clear h
          go_enter Tryd.func34, Tryd.ntmps34
          go_wp2
          go_ret
          exact ⟨ret_bool He.out.symm, rfl⟩
      · have h1 : 4294967296 ≤ n := by omega
        clear h
        go_enter Tryd.func34, Tryd.ntmps34
        go_wp2
        go_ret
        exact ⟨ret_bool He.out.symm, rfl⟩
    · have h0 : n < 0 := by omega
      clear h
      go_enter Tryd.func34, Tryd.ntmps34
      go_wp2
      go_ret
      exact ⟨ret_bool He.out.symm, rfl⟩

end Go.Proofs.YtlojeeakjgalpaaDoor
