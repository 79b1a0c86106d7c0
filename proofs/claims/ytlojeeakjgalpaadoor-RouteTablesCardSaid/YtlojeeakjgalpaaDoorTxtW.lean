/- Walks: the reference's In, Digits, IPText, hex, MACText. -/
import Derived.Test.YtlojeeakjgalpaaDoorPreW
import Derived.BigQuiet
import Derived.Deep.QuietTactic
namespace Adr
open Go
theorem in_pw (n b ip : Int) (hr : right n b = true) (h0 : 0 ≤ ip) (h1 : ip < 4294967296) : (ip / pw (32 - b) == n / pw (32 - b)) = isIn n b ip := by
  obtain ⟨n0, n1, b0, b1, _⟩ := right_bd hr
  obtain ⟨a, rfl⟩ := Int.eq_ofNat_of_zero_le n0
  obtain ⟨c, rfl⟩ := Int.eq_ofNat_of_zero_le h0
  rw [pw_nat b b0 b1, Bool.eq_iff_iff]
  unfold isIn
  rw [hr]
  simp only [beq_iff_eq, Bool.and_eq_true, decide_eq_true_eq, Bool.true_and, Int.toNat_natCast]
  generalize 2 ^ (32 - b.toNat) = m
  rw [← Int.natCast_ediv, ← Int.natCast_ediv]
  omega
end Adr
namespace Go.Proofs.YtlojeeakjgalpaaDoor
open Go.RowKit

theorem quiet_left {P : Program} {f : FuncId} {args : Array Value} {w : World} {n : Nat} {v : Value} (h : Calls P f args (w.drewN n) fun e w' => e = .returned v ∧ w.drewN n = w') :
    Calls P f args (w.drewN n) fun e w'' => e = .returned v ∧ ∃ m, w'' = w.drewN m := h.mono fun _ _ ⟨he, hm⟩ => ⟨he, n, hm.symm⟩

set_option maxHeartbeats 1000000 in
set_option maxRecDepth 100000 in
theorem refIn_any (n b ip : Int) (w : World) :
    Calls Tryd.prog 17 #[.int .i64 n, .int .i64 b, .int .i64 ip] w fun e w' => e = .returned (.bool (Adr.isIn n b ip)) ∧ Below w.heap.size w w' := by
  cases hr : Adr.right n b with
  | false =>
    have He := Lib.hid (Adr.isIn_not (n := n) (b := b) (ip := ip) (by rw [hr]; simp))
    have HQ := Lib.hid (show ∀ W : World, Calls Tryd.prog 34 #[.int .i64 n, .int .i64 b] W fun e w' => e = .returned (.bool false) ∧ W = w' from fun W => by have := refRight_any n b W; rw [hr] at this; exact this)
    clear hr
    go_enter Tryd.func17, Tryd.ntmps17
    go_wp2_with fail
    go_quiet ((go_at_call 34; exact quiet_left (HQ.out _)))
    go_wp2_with fail
    go_ret
    exact ⟨ret_bool He.out.symm, below_drews _⟩
  | true =>
    obtain ⟨n0, n1, b0, b1, _⟩ := Adr.right_bd hr
    have HQ := Lib.hid (show ∀ W : World, Calls Tryd.prog 34 #[.int .i64 n, .int .i64 b] W fun e w' => e = .returned (.bool true) ∧ W = w' from fun W => by have := refRight_any n b W; rw [hr] at this; exact this)
    by_cases h : 0 ≤ ip ∧ ip < 4294967296
    · obtain ⟨h0, h1⟩ := h
      have He := Lib.hid (Adr.in_pw n b ip hr h0 h1)
      have hp := Adr.pw_bd' (32 - b) (by omega) (by omega)
      have HP := Lib.hid (show ∀ W : World, Calls Tryd.prog 35 #[.int .i64 (32 - b)] W fun e w' => e = .returned (.int .i64 (Adr.pw (32 - b))) ∧ W = w' from fun W => power_any (32 - b) W (by omega) (by omega))
      have hs : IntKind.i64.wrap (32 - b) = 32 - b := IntWalk.i64_in _ (by omega)
      clear hr
      go_enter Tryd.func17, Tryd.ntmps17
      go_wp2_with fail
      go_quiet ((first | (go_at_call 34; exact quiet_left (HQ.out _)) | (go_at_call 35; exact quiet_left (HP.out _))))
      go_wp2_with fail
      go_ret
      exact ⟨ret_bool He.out, below_drews _⟩
    · have He := Lib.hid (Adr.isIn_not (n := n) (b := b) (ip := ip) (by rintro ⟨_, x, y⟩; exact h ⟨x, y⟩))
      clear hr
      by_cases h0 : 0 ≤ ip
      · have h1 : 4294967296 ≤ ip := by omega
        have hd : decide (ip < 4294967296) = false := by simp; omega
        clear h
        go_enter Tryd.func17, Tryd.ntmps17
        go_wp2_with fail
        go_quiet ((go_at_call 34; exact quiet_left (HQ.out _)))
        go_wp2_with fail
        go_ret
        exact ⟨ret_bool He.out.symm, below_drews _⟩
      · have h1 : ip < 0 := by omega
        have hd : decide (0 ≤ ip) = false := by simp; omega
        clear h h0
        go_enter Tryd.func17, Tryd.ntmps17
        go_wp2_with fail
        go_quiet ((go_at_call 34; exact quiet_left (HQ.out _)))
        go_wp2_with fail
        go_ret
        exact ⟨ret_bool He.out.symm, below_drews _⟩

/-- string([]byte{..}) of what the call has just laid. -/
theorem conv_new (W : World) (l : List UInt8) : (convert 75 9 (.slice (some ⟨W.heap.size, 0, none⟩) l.length l.length)).run Tryd.prog (W.alloc (.cells (l.map fun b => Value.int .u8 (b.toNat : Int)).toArray 5)) =
    .ok (.string ⟨l.toArray⟩) (W.alloc (.cells (l.map fun b => Value.int .u8 (b.toNat : Int)).toArray 5)) := by
  refine run_convert_bytes_back _ 75 9 5 _ _ l Tryd.underlying75 Tryd.underlying5 Tryd.underlying9 fun j hj => ?_
  rw [add_plain, Nat.zero_add, World.cell?_alloc_at _ _ _ _ rfl]
  simp [hj]
theorem byte_toNat (x : Int) (h0 : 0 ≤ x) (h : x < 256) : ((UInt8.ofNat x.toNat).toNat : Int) = x := by
  simp; omega
theorem conv_one (W : World) (x : Int) (h0 : 0 ≤ x) (h : x < 256) : (convert 75 9 (.slice (some ⟨W.heap.size, 0, none⟩) 1 1)).run Tryd.prog (W.alloc (.cells #[.int .u8 x] 5)) =
    .ok (.string ⟨#[UInt8.ofNat x.toNat]⟩) (W.alloc (.cells #[.int .u8 x] 5)) := by
  have := conv_new W [UInt8.ofNat x.toNat]
  simp only [List.map_cons, List.map_nil, byte_toNat x h0 h] at this
  exact this

theorem hexd_lo {n : Int} (h0 : 0 ≤ n) (h : n < 10) : UInt8.ofNat (48 + n).toNat = Adr.hexd n.toNat := by
  unfold Adr.hexd; rw [if_pos (by omega), show (48 + n).toNat = 48 + n.toNat by omega]
theorem hexd_hi {n : Int} (h : 10 ≤ n) : UInt8.ofNat (97 + n - 10).toNat = Adr.hexd n.toNat := by
  unfold Adr.hexd; rw [if_neg (by omega), show (97 + n - 10).toNat = 87 + n.toNat by omega]


theorem dig_small {n : Int} (h0 : 0 ≤ n) (h : n < 10) : Lib.decDigits n.toNat = [UInt8.ofNat (48 + n % 10).toNat] := by
  rw [Lib.decDigits, dif_pos (by omega)]; congr 2; omega
theorem dec_len (n : Nat) : (Lib.decDigits n).length ≤ n + 1 := by
  induction n using Nat.strongRecOn with
  | _ n ih =>
    rw [Lib.decDigits]
    split
    · simp
    · have := ih (n / 10) (by omega)
      simp; omega
theorem str_append (l m : List UInt8) : ((⟨l.toArray⟩ : ByteArray) ++ (⟨m.toArray⟩ : ByteArray)) = ⟨(l ++ m).toArray⟩ := by
  apply ByteArray.ext; simp
theorem dig_big {n : Int} (h : 10 ≤ n) : Lib.decDigits n.toNat = Lib.decDigits (n / 10).toNat ++ [UInt8.ofNat (48 + n % 10).toNat] := by
  rw [Lib.decDigits, dif_neg (by omega)]
  congr 2
  · congr 1; omega
  · congr 1; omega

set_option maxHeartbeats 1000000 in
set_option maxRecDepth 100000 in
theorem digits_ind (k : Nat) : ∀ (n : Int) (w : World), 0 ≤ n → n < 10 ^ (k + 1) → n ≤ 9223372036854775807 →
    Calls Tryd.prog 42 #[.int .i64 n] w fun e w' => e = .returned (.string ⟨(Lib.decDigits n.toNat).toArray⟩) ∧ Below w.heap.size w w' := by
  induction k with
  | zero =>
    intro n w h0 h h63
    have hlt : n ≤ 9 := by simpa using Int.le_sub_one_of_lt h
    have hcv := conv_one w (48 + n % 10) (by omega) (by omega)
    have HD := Lib.hid (dig_small (n := n) h0 (by omega))
    clear h h63
    go_enter Tryd.func42, Tryd.ntmps42
    go_wp2_with fail
    go_ret
    exact ⟨by rw [HD.out]; rfl, (Below.refl _ _).alloc (Nat.le_refl _) _⟩
  | succ k ih =>
    intro n w h0 h h63
    have hcv := conv_one w (48 + n % 10) (by omega) (by omega)
    by_cases hlt : n ≤ 9
    · have HD := Lib.hid (dig_small (n := n) h0 (by omega))
      clear h h63
      go_enter Tryd.func42, Tryd.ntmps42
      go_wp2_with fail
      go_ret
      exact ⟨by rw [HD.out]; rfl, (Below.refl _ _).alloc (Nat.le_refl _) _⟩
    · have hge : 9 < n := by omega
      have HD := Lib.hid (dig_big (n := n) (by omega))
      have hq : n / 10 < 10 ^ (k + 1) := by
        rw [Int.pow_succ] at h
        exact Int.ediv_lt_of_lt_mul (by decide) h
      have IH := Lib.hid (show ∀ W : World, _ from fun W => ih (n / 10) W (by omega) hq (by omega))
      have hlen : (Lib.decDigits (n / 10).toNat).length ≤ 1000000000000000000 := by have := dec_len (n / 10).toNat; omega
      clear h hq hlt ih
      go_enter Tryd.func42, Tryd.ntmps42
      go_wp2_with fail
      refine (IH.out _).mono ?_
      rintro e w1 ⟨rfl, hb1⟩
      go_wp2_with fail
      go_ret
      exact ⟨by rw [HD.out, ← str_append]; rfl, below_step ((Below.refl _ _).alloc (Nat.le_refl _) _) hb1⟩
theorem digits_any (n : Int) (w : World) (h0 : 0 ≤ n) (h : n < 10000000000000000000) (h63 : n ≤ 9223372036854775807) :
    Calls Tryd.prog 42 #[.int .i64 n] w fun e w' => e = .returned (.string ⟨(Lib.decDigits n.toNat).toArray⟩) ∧ Below w.heap.size w w' :=
  digits_ind 18 n w h0 h h63
end Go.Proofs.YtlojeeakjgalpaaDoor
