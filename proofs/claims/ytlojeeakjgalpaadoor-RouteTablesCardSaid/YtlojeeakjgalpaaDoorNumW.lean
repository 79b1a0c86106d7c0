/- A walk: the reference's Num. -/
import Derived.Test.YtlojeeakjgalpaaDoorProg
import Derived.WalkKit
import Derived.WalkSpells
import Derived.WalkLawsBesides
import Derived.Lib.Hide
import Derived.Test.YtlojeeakjgalpaaDoorCalc
namespace Adr
open Go
/-- The value of a text's first k digits. -/
def valN (s : ByteArray) (k : Nat) : Int := (val (s.data.toList.take k) : Int)
def digs (s : ByteArray) (k : Nat) : Bool := (s.data.toList.take k).all isDig
theorem take_snoc (s : ByteArray) (k : Nat) (h : k < s.size) : s.data.toList.take (k + 1) = s.data.toList.take k ++ [s[k]] := by
  rw [List.take_succ_eq_append_getElem (by simpa using h)]; rfl
theorem valN_zero (s : ByteArray) : valN s 0 = 0 := by unfold valN; rw [List.take_zero]; rfl
theorem digs_zero (s : ByteArray) : digs s 0 = true := by unfold digs; rw [List.take_zero]; rfl
theorem valN_succ (s : ByteArray) (k : Nat) (h : k < s.size) (h48 : 48 ≤ s[k].toNat) : valN s (k + 1) = 10 * valN s k + ((s[k].toNat : Int) - 48) := by
  unfold valN val
  rw [take_snoc s k h, valFrom_append, valFrom_cons, valFrom_nil]; omega
theorem digs_succ (s : ByteArray) (k : Nat) (h : k < s.size) : digs s (k + 1) = (digs s k && isDig s[k]) := by
  unfold digs
  rw [take_snoc s k h, List.all_append]; simp
theorem valN_bd (s : ByteArray) (k : Nat) (hk : k ≤ 10) (hd : digs s k = true) : 0 ≤ valN s k ∧ valN s k < 10000000000 := by
  have h1 := val_lt _ hd
  have h2 : (s.data.toList.take k).length ≤ 10 := by rw [List.length_take]; omega
  have h3 : 10 ^ (s.data.toList.take k).length ≤ 10 ^ 10 := Nat.pow_le_pow_right (by decide) h2
  unfold valN; omega
theorem list_size (s : ByteArray) : s.data.toList.length = s.size := by simp
theorem num_empty (s : ByteArray) (h : s.size < 1) : num s.data.toList = -1 := by
  refine num_of_not ?_
  have : s.data.toList = [] := List.length_eq_zero_iff.1 (by rw [list_size]; omega)
  rw [this]; rfl
theorem num_long (s : ByteArray) (h : 10 < s.size) : num s.data.toList = -1 := by
  refine num_of_not ?_
  rw [Bool.eq_false_iff]
  intro hc
  have := ((canon_iff _).1 hc).2.1
  rw [list_size] at this; omega
theorem head_get (s : ByteArray) (h : 0 < s.size) : s.data.toList.head? = some s[0] := by
  have : s.data.toList = s[0] :: s.data.toList.drop 1 := by
    have h1 := take_snoc s 0 h
    rw [List.take_zero, List.nil_append] at h1
    have h2 := List.take_append_drop 1 s.data.toList
    rw [h1] at h2; exact h2.symm
  rw [this]; rfl
theorem num_zeros (s : ByteArray) (h : 1 < s.size) (h0 : s[0].toNat = 48) : num s.data.toList = -1 := by
  refine num_of_not ?_
  rw [Bool.eq_false_iff]
  intro hc
  have := ((canon_iff _).1 hc).2.2.2 s[0] (head_get s (by omega)) (UInt8.toNat_inj.1 (by rw [h0]; rfl))
  rw [list_size] at this; omega
theorem num_other (s : ByteArray) (k : Nat) (h : k < s.size) (hd : isDig s[k] = false) : num s.data.toList = -1 := by
  refine num_of_not ?_
  rw [Bool.eq_false_iff]
  intro hc
  have := List.all_eq_true.1 ((canon_iff _).1 hc).2.2.1 s[k] (List.getElem_mem (by simpa using h))
  rw [hd] at this; cases this
theorem num_all (s : ByteArray) (h1 : 1 ≤ s.size) (h2 : s.size ≤ 10) (h3 : ¬ (s[0].toNat = 48 ∧ 1 < s.size)) (hd : digs s s.size = true) : num s.data.toList = valN s s.size := by
  unfold digs at hd
  unfold valN
  rw [List.take_of_length_le (by rw [list_size]; omega)] at hd ⊢
  refine num_of_canon ?_
  rw [canon_iff]
  refine ⟨?_, by rw [list_size]; omega, hd, ?_⟩
  · intro e
    have := congrArg List.length e
    rw [list_size] at this; simp only [List.length_nil] at this; omega
  · intro c hc h48
    rw [head_get s (by omega)] at hc
    rw [list_size]
    have : s[0].toNat = 48 := by
      have := Option.some.inj hc
      rw [this, h48]; rfl
    omega
end Adr
namespace Go.Proofs.YtlojeeakjgalpaaDoor
open Go.RowKit

set_option maxHeartbeats 1000000 in
theorem refNum_any (s : ByteArray) (w : World) (hs : s.size ≤ maxLen) :
    Calls Tryd.prog 33 #[.string s] w fun e w' => e = .returned (.int .i64 (Adr.num s.data.toList)) ∧ w = w' := by
  unfold maxLen at hs
  by_cases h0 : s.size < 1
  · have He := Lib.hid (Adr.num_empty s h0)
    go_enter Tryd.func33, Tryd.ntmps33
    go_wp2
    go_ret
    exact ⟨ret_int He.out.symm, rfl⟩
  · by_cases h1 : 10 < s.size
    · have He := Lib.hid (Adr.num_long s h1)
      go_enter Tryd.func33, Tryd.ntmps33
      go_wp2
      go_ret
      exact ⟨ret_int He.out.symm, rfl⟩
    · have hp : 0 < s.size := by omega
      have hl : s.size ≤ 10 := by omega
      by_cases h2 : s[0].toNat = 48 ∧ 1 < s.size
      · obtain ⟨h3, h4⟩ := h2
        have He := Lib.hid (Adr.num_zeros s h4 h3)
        have z1 : 48 ≤ s[0].toNat := by omega
        have z2 : s[0].toNat ≤ 48 := by omega
        clear h3
        go_enter Tryd.func33, Tryd.ntmps33
        go_wp2
        go_ret
        exact ⟨ret_int He.out.symm, rfl⟩
      · have HA := Lib.hid (Adr.num_all s (by omega) hl h2)
        have hcase : (s.size ≤ 1 ∧ 48 ≤ s[0].toNat ∧ s[0].toNat ≤ 48) ∨ s[0].toNat < 48 ∨ 48 < s[0].toNat := by omega
        clear h2
        rcases hcase with ⟨c1, c2, c3⟩ | c2 | c2
        all_goals
          go_enter Tryd.func33, Tryd.ntmps33
          go_wp2
          go_loop [3, 4] (fun n i => ∃ k : Nat, k ≤ s.size ∧ i = .int .i64 k ∧ Adr.digs s k = true ∧ n = .int .i64 (Adr.valN s k)) (fun _ i => s.size - (intOf i).toNat)
          case atStart => exact ⟨0, Nat.zero_le _, rfl, Adr.digs_zero s, by rw [Adr.valN_zero]⟩
          case round =>
            obtain ⟨k, hk, rfl, hd, rfl⟩ := hrel
            have hb := Adr.valN_bd s k (by omega) hd
            have Hd := Lib.hid hd
            clear hd
            by_cases hlt : k < s.size
            · have hc := s[k].toNat_lt
              by_cases hg : 48 ≤ s[k].toNat ∧ s[k].toNat ≤ 57
              · obtain ⟨g1, g2⟩ := hg
                have HV := Lib.hid (Adr.valN_succ s k hlt g1)
                have HD := Lib.hid (show Adr.digs s (k + 1) = true by rw [Adr.digs_succ s k hlt, Hd.out, (Adr.isDig_iff _).2 ⟨g1, g2⟩]; rfl)
                go_wp2
                go_round
                case rel => exact ⟨k + 1, by omega, by go_num, HD.out, by rw [HV.out]⟩
                case measure => simp [intOf]; omega
              · have HE := Lib.hid (Adr.num_other s k hlt (by rw [Bool.eq_false_iff]; exact fun e => hg ((Adr.isDig_iff _).1 e)))
                by_cases g1 : s[k].toNat < 48
                · clear hg
                  go_wp2
                  go_ret
                  exact ⟨ret_int HE.out.symm, rfl⟩
                · have g2 : 57 < s[k].toNat := by omega
                  clear hg
                  go_wp2
                  go_ret
                  exact ⟨ret_int HE.out.symm, rfl⟩
            · obtain rfl : k = s.size := by omega
              go_wp2
              go_ret
              exact ⟨ret_int (HA.out Hd.out).symm, rfl⟩
end Go.Proofs.YtlojeeakjgalpaaDoor
