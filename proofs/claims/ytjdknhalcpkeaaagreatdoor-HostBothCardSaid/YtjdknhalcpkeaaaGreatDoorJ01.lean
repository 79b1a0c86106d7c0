/- Plain facts on hardware addresses. No program in sight. Walks: the functions that only reckon: rest, right, In, Power, Right, In of the references. What the walks are told of the library's variables, and that it stays so behind a call that only makes memory. Words for memory, of no program: slices that read as a list; an append onto a row of the call's own; strings as lists of bytes. Entries in memory: a slice of them reads as a list; the walk of few. Plain facts: a whole number as a float, divided by 1000, is no invalid operation. -/
import Derived.Test.YtjdknhalcpkeaaaGreatDoorProg
import Derived.WalkKit
import Derived.WalkSpells
import Derived.WalkLawsBesides
import Derived.BigQuiet
import Derived.Deep.QuietTactic
import Derived.Lib.Hide
import Derived.WalkSmall
import Derived.Lib.LaidTab
import Derived.Lib.ItoaNum
import Derived.Lib.AtoiErrMem
import Derived.Lib.AppendIntMem
import Derived.OwnWalk
import Derived.Laws.OwnMore
import Derived.Laws.AppendOwn
import Derived.Deep.Draws
import Derived.Lib.Strings
import Derived.Laws.FloatArith
import Derived.Laws.Externs
import Derived.Test.YtjdknhalcpkeaaaGreatDoorJ00
namespace Adr
open Go.Lib
def hexd (k : Nat) : UInt8 := UInt8.ofNat (if k < 10 then 48 + k else 87 + k)
def hv (c : UInt8) : Int := if 48 ≤ c.toNat ∧ c.toNat ≤ 57 then (c.toNat : Int) - 48 else if 97 ≤ c.toNat ∧ c.toNat ≤ 102 then (c.toNat : Int) - 97 + 10 else -1
def mac2 (k : Nat) : List UInt8 := [hexd (k / 16), hexd (k % 16)]
def macText (n : Nat) : List UInt8 := glue 58 [mac2 (n / 1099511627776 % 256), mac2 (n / 4294967296 % 256), mac2 (n / 16777216 % 256), mac2 (n / 65536 % 256), mac2 (n / 256 % 256), mac2 (n % 256)]
def mstep (n : Int) (w : List UInt8) : Int := match w with
 | [x, y] => if n < 0 ∨ hv x < 0 ∨ hv y < 0 then -1 else 256 * n + 16 * hv x + hv y
 | _ => -1
def mac (l : List UInt8) : Int := match parts 58 l with
 | [a, b, c, d, e, f] => mstep (mstep (mstep (mstep (mstep (mstep 0 a) b) c) d) e) f
 | _ => -1
theorem hexd_nat {k : Nat} (h : k < 16) : (hexd k).toNat = if k < 10 then 48 + k else 87 + k := by
 unfold hexd; split <;> simp <;> omega
theorem hv_hexd {k : Nat} (h : k < 16) : hv (hexd k) = k := by
 unfold hv
 rw [hexd_nat h]
 split
 · rw [if_pos (by omega)]; omega
 · rw [if_neg (by omega), if_pos (by omega)]; omega
theorem hexd_hv {c : UInt8} (h : 0 ≤ hv c) : hv c < 16 ∧ hexd (hv c).toNat = c := by
 unfold hv at h ⊢
 split
 · rename_i h1
   refine ⟨by omega, UInt8.toNat_inj.1 ?_⟩
   rw [hexd_nat (by omega), if_pos (by omega)]; omega
 · rename_i h1
   rw [if_neg h1] at h
   split
   · rename_i h2
     refine ⟨by omega, UInt8.toNat_inj.1 ?_⟩
     rw [hexd_nat (by omega), if_neg (by omega)]; omega
   · rename_i h2; rw [if_neg h2] at h; omega
theorem hexd_free {k : Nat} (h : k < 16) : (58 : UInt8) ≠ hexd k := by
 intro e
 have := congrArg UInt8.toNat e
 rw [hexd_nat h] at this
 simp at this
 split at this <;> omega
theorem mac2_free {k : Nat} (h : k < 256) : (58 : UInt8) ∉ mac2 k := by
 unfold mac2
 simp only [List.mem_cons, List.not_mem_nil, or_false, not_or]
 exact ⟨hexd_free (by omega), hexd_free (by omega)⟩
theorem mstep_mac2 (n k : Nat) (h : k < 256) : mstep n (mac2 k) = ((256 * n + k : Nat) : Int) := by
 unfold mac2 mstep
 simp only
 rw [hv_hexd (show k / 16 < 16 by omega), hv_hexd (show k % 16 < 16 by omega), if_neg (by omega)]
 omega
theorem macText_parts (n : Nat) : parts 58 (macText n) = [mac2 (n / 1099511627776 % 256), mac2 (n / 4294967296 % 256), mac2 (n / 16777216 % 256), mac2 (n / 65536 % 256), mac2 (n / 256 % 256), mac2 (n % 256)] := by
 have f : ∀ k, (58 : UInt8) ∉ mac2 (k % 256) := fun k => mac2_free (Nat.mod_lt _ (by decide))
 unfold macText
 rw [glue_more, glue_more, glue_more, glue_more, glue_more, glue_one, parts_append _ _ _ (f _), parts_append _ _ _ (f _), parts_append _ _ _ (f _), parts_append _ _ _ (f _), parts_append _ _ _ (f _), parts_free _ _ (f _)]
theorem mac_text (n : Nat) (h : n < 281474976710656) : mac (macText n) = n := by
 unfold mac
 rw [macText_parts]
 simp only
 rw [show (0 : Int) = ((0 : Nat) : Int) from rfl, mstep_mac2 _ _ (by omega), mstep_mac2 _ _ (by omega), mstep_mac2 _ _ (by omega), mstep_mac2 _ _ (by omega), mstep_mac2 _ _ (by omega), mstep_mac2 _ _ (by omega)]
 omega
theorem mstep_ok {n : Int} {w : List UInt8} (h : 0 ≤ mstep n w) : 0 ≤ n ∧ ∃ k : Nat, k < 256 ∧ w = mac2 k ∧ mstep n w = 256 * n + k := by
 unfold mstep at h ⊢
 split at h
 · rename_i x y
   split at h
   · omega
   · rename_i hn
     have hx := hexd_hv (c := x) (by omega)
     have hy := hexd_hv (c := y) (by omega)
     refine ⟨by omega, (16 * hv x + hv y).toNat, by omega, ?_, ?_⟩
     · unfold mac2
       rw [show (16 * hv x + hv y).toNat / 16 = (hv x).toNat by omega, show (16 * hv x + hv y).toNat % 16 = (hv y).toNat by omega, hx.2, hy.2]
     · rw [if_neg hn]; omega
 · omega
theorem mac_cases (l : List UInt8) : mac l = -1 ∨ ∃ a b c d e f, parts 58 l = [a, b, c, d, e, f] ∧ mac l = mstep (mstep (mstep (mstep (mstep (mstep 0 a) b) c) d) e) f := by
 unfold mac
 split
 · rename_i a b c d e f h; right; exact ⟨a, b, c, d, e, f, h, rfl⟩
 · left; rfl
theorem mac_fore (l : List UInt8) (h : 0 ≤ mac l) : mac l < 281474976710656 ∧ macText (mac l).toNat = l := by
 rcases mac_cases l with e | ⟨a, b, c, d, e', f, hp, e⟩
 · omega
 · rw [e] at h ⊢
   obtain ⟨h5, kf, f1, ef, gf⟩ := mstep_ok h
   obtain ⟨h4, ke, e1, ee, ge⟩ := mstep_ok h5
   obtain ⟨h3, kd, d1, ed, gd⟩ := mstep_ok h4
   obtain ⟨h2, kc, c1, ec, gc⟩ := mstep_ok h3
   obtain ⟨h1, kb, b1, eb, gb⟩ := mstep_ok h2
   obtain ⟨_, ka, a1, ea, ga⟩ := mstep_ok h1
   rw [gf, ge, gd, gc, gb, ga]
   refine ⟨by omega, ?_⟩
   unfold macText
   generalize hN : (256 * (256 * (256 * (256 * (256 * (256 * (0 : Int) + ka) + kb) + kc) + kd) + ke) + kf).toNat = N
   rw [show N / 1099511627776 % 256 = ka by omega, show N / 4294967296 % 256 = kb by omega, show N / 16777216 % 256 = kc by omega, show N / 65536 % 256 = kd by omega, show N / 256 % 256 = ke by omega, show N % 256 = kf by omega, ← ea, ← eb, ← ec, ← ed, ← ee, ← ef, ← hp]
   exact glue_parts 58 l
theorem mac_ge (l : List UInt8) : -1 ≤ mac l := by
 rcases mac_cases l with h | ⟨a, b, c, d, e, f, _, h⟩
 · omega
 · rw [h]
   generalize mstep (mstep (mstep (mstep (mstep 0 a) b) c) d) e = n
   unfold mstep
   split
   · split <;> omega
   · omega
def dig36 (c : UInt8) : Nat := if 48 ≤ c.toNat ∧ c.toNat ≤ 57 then c.toNat - 48 else if 97 ≤ (c ||| 32).toNat ∧ (c ||| 32).toNat ≤ 122 then (c ||| 32).toNat - 97 + 10 else 255
def parse16 (acc : Nat) : List UInt8 → Option (Option Nat)
 | [] => some (some acc)
 | c :: r => if 16 ≤ dig36 c then none else if 281474976710656 ≤ acc * 16 + dig36 c then some none else parse16 (acc * 16 + dig36 c) r
def parseMac (l : List UInt8) : Option (Option Nat) := if l = [] then none else parse16 0 l
def macP (l : List UInt8) : Int := match parseMac (replaceAll l [58] []) with
 | some (some n) => if macText n = l then (n : Int) else -1
 | _ => -1
theorem parse16_lt : ∀ (l : List UInt8) (acc u : Nat), acc < 281474976710656 → parse16 acc l = some (some u) → u < 281474976710656
 | [], acc, u, ha, h => by
   rw [parse16] at h
   injection h with h
   injection h with h
   omega
 | c :: r, acc, u, ha, h => by
   rw [parse16] at h
   by_cases h1 : 16 ≤ dig36 c
   · rw [if_pos h1] at h; cases h
   · rw [if_neg h1] at h
     by_cases h2 : 281474976710656 ≤ acc * 16 + dig36 c
     · rw [if_pos h2] at h; cases h
     · rw [if_neg h2] at h
       exact parse16_lt r _ u (by omega) h
theorem parseMac_lt {l : List UInt8} {u : Nat} (h : parseMac l = some (some u)) : u < 281474976710656 := by
 unfold parseMac at h
 split at h
 · cases h
 · exact parse16_lt l 0 u (by decide) h
theorem or32 : ∀ k : Fin 16, dig36 (hexd k.val) = k.val := by decide +kernel
theorem dig_hexd {k : Nat} (h : k < 16) : dig36 (hexd k) = k := or32 ⟨k, h⟩
theorem parse_two (acc k : Nat) (r : List UInt8) (hk : k < 256) (ha : acc * 256 + k < 281474976710656) : parse16 acc (mac2 k ++ r) = parse16 (acc * 256 + k) r := by
 unfold mac2
 rw [List.cons_append, List.cons_append, List.nil_append, parse16, dig_hexd (show k / 16 < 16 by omega), if_neg (by omega), if_neg (by omega), parse16, dig_hexd (show k % 16 < 16 by omega), if_neg (by omega), if_neg (by omega)]
 congr 1; omega
theorem filter_glue (L : List (List UInt8)) (h : ∀ p ∈ L, (58 : UInt8) ∉ p) : (glue 58 L).filter (· != 58) = L.flatten := by
 induction L with
 | nil => rfl
 | cons a r ih =>
   cases r with
   | nil => rw [glue_one, filter_free 58 a (h a (by simp))]; simp
   | cons b r =>
     rw [glue_more, List.filter_append, filter_free 58 a (h a (by simp)), List.filter_cons_of_neg (by simp), ih (fun p hp => h p (by simp only [List.mem_cons] at hp ⊢; exact Or.inr hp))]
     simp
theorem parse_macText (n : Nat) (h : n < 281474976710656) : parseMac (replaceAll (macText n) [58] []) = some (some n) := by
 have f : ∀ k, (58 : UInt8) ∉ mac2 (k % 256) := fun k => mac2_free (Nat.mod_lt _ (by decide))
 rw [replace_filter]
 unfold macText
 rw [filter_glue _ (by
  intro p hp
  simp only [List.mem_cons, List.not_mem_nil, or_false] at hp
  rcases hp with rfl | rfl | rfl | rfl | rfl | rfl <;> exact f _)]
 simp only [List.flatten_cons, List.flatten_nil]
 unfold parseMac
 rw [if_neg (by simp [mac2]), parse_two _ _ _ (by omega) (by omega), parse_two _ _ _ (by omega) (by omega), parse_two _ _ _ (by omega) (by omega), parse_two _ _ _ (by omega) (by omega), parse_two _ _ _ (by omega) (by omega), parse_two _ _ _ (by omega) (by omega), parse16]
 congr 2; omega
theorem macP_eq (l : List UInt8) : macP l = mac l := by
 unfold macP
 by_cases h : 0 ≤ mac l
 · obtain ⟨h1, h2⟩ := mac_fore l h
   have := parse_macText (mac l).toNat (by omega)
   rw [h2] at this
   rw [this]
   simp only
   rw [if_pos h2]; omega
 · have hm : mac l = -1 := by have := mac_ge l; omega
   rw [hm]
   split
   · rename_i n hn
     by_cases e : macText n = l
     · exfalso
       have := mac_text n (parseMac_lt hn)
       rw [e] at this; omega
     · rw [if_neg e]
   · rfl
end Adr
namespace Go.Proofs.YtjdknhalcpkeaaaGreatDoor
open Go.RowKit
theorem ret_int {k : IntKind} {a b : Int} (h : a = b) : Ending.returned (.int k a) = .returned (.int k b) := by rw [h]
theorem ret_bool {a b : Bool} (h : a = b) : Ending.returned (.bool a) = .returned (.bool b) := by rw [h]
set_option maxHeartbeats 400000 in
theorem rest_any (n : Int) (w : World) (h0 : 0 ≤ n) (h : n ≤ 32) :
 Calls Tryz.prog 198 #[.int .i64 n] w fun e w' => e = .returned (.int .i64 (Adr.restV n)) ∧ w = w' := by
 go_enter Tryz.func198, Tryz.ntmps198
 go_wp2
 go_ret
 exact ⟨ret_int (Adr.rest_val n h0 h), rfl⟩
set_option maxHeartbeats 400000 in
theorem right_any (n b : Int) (w : World) :
 Calls Tryz.prog 197 #[.int .i64 n, .int .i64 b] w fun e w' => e = .returned (.bool (Adr.right n b)) ∧ w = w' := by
 by_cases h : 0 ≤ n ∧ n < 4294967296 ∧ 0 ≤ b ∧ b ≤ 32
 · obtain ⟨h0, h1, h2, h3⟩ := h
   have he := Adr.right_bits n b h0 h1 h2 h3
   go_enter Tryz.func197, Tryz.ntmps197
   go_wp2_with (go_at_call 198; refine (rest_any _ _ (by omega) (by omega)).mono ?_; rintro e w' ⟨rfl, rfl⟩)
   go_ret
   exact ⟨rfl, rfl⟩
 · have he := Adr.right_not h
   by_cases h0 : 0 ≤ n
   · by_cases h1 : n < 4294967296
     · by_cases h2 : 0 ≤ b
       · have h3 : 32 < b := by omega
         clear h
         go_enter Tryz.func197, Tryz.ntmps197
         go_wp2
         go_ret
         exact ⟨rfl, rfl⟩
       · have h2 : b < 0 := by omega
         clear h
         go_enter Tryz.func197, Tryz.ntmps197
         go_wp2
         go_ret
         exact ⟨rfl, rfl⟩
     · have h1 : 4294967296 ≤ n := by omega
       clear h
       go_enter Tryz.func197, Tryz.ntmps197
       go_wp2
       go_ret
       exact ⟨rfl, rfl⟩
   · have h0 : n < 0 := by omega
     clear h
     go_enter Tryz.func197, Tryz.ntmps197
     go_wp2
     go_ret
     exact ⟨rfl, rfl⟩
set_option maxHeartbeats 400000 in
theorem in_any (n b ip : Int) (w : World) :
 Calls Tryz.prog 172 #[.int .i64 n, .int .i64 b, .int .i64 ip] w fun e w' => e = .returned (.bool (Adr.isIn n b ip)) ∧ w = w' := by
 cases hr : Adr.right n b with
 | false =>
   have He := Lib.hid (Adr.isIn_not (n := n) (b := b) (ip := ip) (by rw [hr]; simp))
   have Hr := Lib.hid hr; clear hr
   go_enter Tryz.func172, Tryz.ntmps172
   go_wp2_with (go_at_call 197; refine (right_any _ _ _).mono ?_; rintro e w' ⟨rfl, rfl⟩; rw [Hr.out])
   go_ret
   exact ⟨ret_bool He.out.symm, rfl⟩
 | true =>
   obtain ⟨n0, n1, b0, b1, _⟩ := Adr.right_bd hr
   by_cases h : 0 ≤ ip ∧ ip < 4294967296
   · obtain ⟨h0, h1⟩ := h
     have He := Lib.hid (Adr.in_bits n b ip hr h0 h1)
     have Hr := Lib.hid hr; clear hr
     go_enter Tryz.func172, Tryz.ntmps172
     go_wp2_with (first | (go_at_call 197; refine (right_any _ _ _).mono ?_; rintro e w' ⟨rfl, rfl⟩; rw [Hr.out]) | (go_at_call 198; refine (rest_any _ _ (by omega) (by omega)).mono ?_; rintro e w' ⟨rfl, rfl⟩))
     go_ret
     exact ⟨ret_bool He.out, rfl⟩
   · have He := Lib.hid (Adr.isIn_not (n := n) (b := b) (ip := ip) (by rintro ⟨_, x, y⟩; exact h ⟨x, y⟩))
     have Hr := Lib.hid hr; clear hr
     by_cases h0 : 0 ≤ ip
     · have h1 : 4294967296 ≤ ip := by omega
       clear h
       go_enter Tryz.func172, Tryz.ntmps172
       go_wp2_with (go_at_call 197; refine (right_any _ _ _).mono ?_; rintro e w' ⟨rfl, rfl⟩; rw [Hr.out])
       go_ret
       exact ⟨ret_bool He.out.symm, rfl⟩
     · have h0 : ip < 0 := by omega
       clear h
       go_enter Tryz.func172, Tryz.ntmps172
       go_wp2_with (go_at_call 197; refine (right_any _ _ _).mono ?_; rintro e w' ⟨rfl, rfl⟩; rw [Hr.out])
       go_ret
       exact ⟨ret_bool He.out.symm, rfl⟩
set_option maxHeartbeats 400000 in
theorem power_any (n : Int) (w : World) (h0 : 0 ≤ n) (h : n ≤ 32) :
 Calls Tryz.prog 180 #[.int .i64 n] w fun e w' => e = .returned (.int .i64 (Adr.pw n)) ∧ w = w' := by
 obtain ⟨m, rfl⟩ := Int.eq_ofNat_of_zero_le h0
 have hm : m ≤ 32 := by omega
 clear h h0
 go_enter Tryz.func180, Tryz.ntmps180
 go_wp2
 go_loop [3, 4] (fun o i => ∃ k : Nat, k ≤ m ∧ i = .int .i64 k ∧ o = .int .i64 (Adr.pw k)) (fun _ i => m - (intOf i).toNat)
 case atStart => exact ⟨0, Nat.zero_le _, rfl, rfl⟩
 case round =>
  obtain ⟨k, hk, rfl, rfl⟩ := hrel
  have hp := Adr.pw_bd k (by omega)
  have HS := Lib.hid (Adr.pw_succ k)
  by_cases hlt : k < m
  · go_wp2
    go_round
    case rel => exact ⟨k + 1, by omega, by go_num, by rw [HS.out]⟩
    case measure => simp [intOf]; omega
  · have hk2 : k = m := by omega
    have Hk := Lib.hid hk2; clear hk2
    go_wp2
    go_ret
    exact ⟨ret_int (by rw [Hk.out]), rfl⟩
set_option maxHeartbeats 400000 in
theorem refRight_any (n b : Int) (w : World) :
 Calls Tryz.prog 176 #[.int .i64 n, .int .i64 b] w fun e w' => e = .returned (.bool (Adr.right n b)) ∧ w = w' := by
 by_cases h : 0 ≤ n ∧ n < 4294967296 ∧ 0 ≤ b ∧ b ≤ 32
 · obtain ⟨h0, h1, h2, h3⟩ := h
   have He := Lib.hid (Adr.right_pw n b h0 h1 h2 h3)
   have hp := Adr.pw_bd' (32 - b) (by omega) (by omega)
   go_enter Tryz.func176, Tryz.ntmps176
   go_wp2_with (go_at_call 180; refine (power_any _ _ (by omega) (by omega)).mono ?_; rintro e w' ⟨rfl, rfl⟩)
   go_ret
   exact ⟨ret_bool He.out, rfl⟩
 · have He := Lib.hid (Adr.right_not h)
   by_cases h0 : 0 ≤ n
   · by_cases h1 : n < 4294967296
     · by_cases h2 : 0 ≤ b
       · have h3 : 32 < b := by omega
         clear h
         go_enter Tryz.func176, Tryz.ntmps176
         go_wp2
         go_ret
         exact ⟨ret_bool He.out.symm, rfl⟩
       · have h2 : b < 0 := by omega
         clear h
         go_enter Tryz.func176, Tryz.ntmps176
         go_wp2
         go_ret
         exact ⟨ret_bool He.out.symm, rfl⟩
     · have h1 : 4294967296 ≤ n := by omega
       clear h
       go_enter Tryz.func176, Tryz.ntmps176
       go_wp2
       go_ret
       exact ⟨ret_bool He.out.symm, rfl⟩
   · have h0 : n < 0 := by omega
     clear h
     go_enter Tryz.func176, Tryz.ntmps176
     go_wp2
     go_ret
     exact ⟨ret_bool He.out.symm, rfl⟩
set_option maxHeartbeats 400000 in
theorem value_any (c : UInt8) (w : World) :
 Calls Tryz.prog 177 #[.int .u8 (c.toNat : Int)] w fun e w' => e = .returned (.int .i64 (Adr.hv c)) ∧ w = w' := by
 have hc := c.toNat_lt
 by_cases h1 : 48 ≤ c.toNat ∧ c.toNat ≤ 57
 · have He := Lib.hid (show Adr.hv c = (c.toNat : Int) - 48 by unfold Adr.hv; rw [if_pos h1])
   obtain ⟨a, b⟩ := h1
   go_enter Tryz.func177, Tryz.ntmps177
   go_wp2
   go_ret
   exact ⟨ret_int (by rw [He.out]), rfl⟩
 · by_cases h2 : 97 ≤ c.toNat ∧ c.toNat ≤ 102
   · have He := Lib.hid (show Adr.hv c = (c.toNat : Int) - 97 + 10 by unfold Adr.hv; rw [if_neg h1, if_pos h2])
     obtain ⟨a, b⟩ := h2
     clear h1
     go_enter Tryz.func177, Tryz.ntmps177
     go_wp2
     go_ret
     exact ⟨ret_int (by rw [He.out]), rfl⟩
   · have He := Lib.hid (show Adr.hv c = -1 by unfold Adr.hv; rw [if_neg h1, if_neg h2])
     by_cases a : c.toNat < 48
     · clear h1 h2
       go_enter Tryz.func177, Tryz.ntmps177
       go_wp2
       go_ret
       exact ⟨ret_int (by rw [He.out]), rfl⟩
     · by_cases b : c.toNat < 97
       · have a2 : 57 < c.toNat := by omega
         clear h1 h2
         go_enter Tryz.func177, Tryz.ntmps177
         go_wp2
         go_ret
         exact ⟨ret_int (by rw [He.out]), rfl⟩
       · have a2 : 102 < c.toNat := by omega
         clear h1 h2
         go_enter Tryz.func177, Tryz.ntmps177
         go_wp2
         go_ret
         exact ⟨ret_int (by rw [He.out]), rfl⟩
end Go.Proofs.YtjdknhalcpkeaaaGreatDoor
namespace Go.Proofs.YtjdknhalcpkeaaaGreatDoor
open Go.RowKit
theorem gPow : Tryz.prog.globalNamed "internal/strconv.uint64pow10" = some 6 := by kernel_rfl
structure Env (w : World) : Prop where
 mx : ∃ m : Int, w.cell? ⟨0, 0, none⟩ = some (.int .i64 m)
 es : ∃ tp p, w.cell? ⟨4, 0, none⟩ = some (.iface tp p)
 er : ∃ tp p, w.cell? ⟨5, 0, none⟩ = some (.iface tp p)
 tb : Lib.TabIs Tryz.prog w "internal/strconv.uint64pow10" .u64 Lib.pow10Tab
theorem Env.below {w w' : World} (h : Env w) (hb : Below w.heap.size w w') : Env w' := by
 obtain ⟨⟨m, hm⟩, ⟨t1, p1, h1⟩, ⟨t2, p2, h2⟩, ht⟩ := h
 have hz := ht.cell gPow 0 (by decide)
 exact ⟨⟨m, (hb.cell (Lib.lt_of_cell hm)).trans hm⟩, ⟨t1, p1, (hb.cell (Lib.lt_of_cell h1)).trans h1⟩, ⟨t2, p2, (hb.cell (Lib.lt_of_cell h2)).trans h2⟩, var?_below hb gPow (Lib.lt_of_cell hz) ht⟩
theorem below_step {w a b : World} (h : Below w.heap.size w a) (k : Below a.heap.size a b) : Below w.heap.size w b := h.trans (k.mono h.size)
theorem below_drews {w : World} (n : Nat) : Below w.heap.size w (w.drewN n) := below_drewN (Below.refl _ _) n
theorem Env.drewN {w : World} (h : Env w) (n : Nat) : Env (w.drewN n) := h.below (below_drews n)
theorem mk_data (s : ByteArray) : (⟨s.data.toList.toArray⟩ : ByteArray) = s := by cases s; simp
theorem data_mk (l : List UInt8) : (⟨l.toArray⟩ : ByteArray).data.toList = l := by simp
theorem size_mk (l : List UInt8) : (⟨l.toArray⟩ : ByteArray).size = l.length := by simp [ByteArray.size]
theorem size_data (s : ByteArray) : s.data.toList.length = s.size := by simp
end Go.Proofs.YtjdknhalcpkeaaaGreatDoor
namespace Go.Proofs.YtjdknhalcpkeaaaGreatDoor
open Go Go.RowKit
theorem add_block (a : Addr) (n : Nat) : (a.add n).block = a.block := by unfold Addr.add; split <;> rfl
theorem add_plain (b o j : Nat) : (⟨b, o, none⟩ : Addr).add j = ⟨b, o + j, none⟩ := by
 unfold Addr.add; split
 · subst_vars; rfl
 · rfl
def Rd (w : World) (k : Nat) (A : Option Addr) (n : Nat) (xs : List Value) : Prop :=
 xs.length = n * k ∧ (0 < n → ∃ ad, A = some ad ∧ ad.block < w.heap.size ∧ ∀ j u, xs[j]? = some u → w.cell? (ad.add j) = some u)
section
variable {w w' : World} {k n : Nat} {A : Option Addr} {xs : List Value}
theorem Rd.nil : Rd w k A 0 [] := ⟨by simp, fun h => absurd h (by omega)⟩
theorem Rd.keep (h : Rd w k A n xs) (hs : w.heap.size ≤ w'.heap.size) (hc : ∀ p : Addr, p.block < w.heap.size → w'.cell? p = w.cell? p) : Rd w' k A n xs :=
 ⟨h.1, fun hn => by
  obtain ⟨ad, e, hb, hx⟩ := h.2 hn
  exact ⟨ad, e, Nat.lt_of_lt_of_le hb hs, fun j u hu => (hc _ (by rw [add_block]; exact hb)).trans (hx j u hu)⟩⟩
theorem Rd.below (h : Rd w k A n xs) (hb : Below w.heap.size w w') : Rd w' k A n xs := h.keep hb.size fun _ hp => hb.cell hp
theorem Rd.drew (h : Rd w k A n xs) : Rd w.drew k A n xs := h
theorem Rd.drewN (h : Rd w k A n xs) (m : Nat) : Rd (w.drewN m) k A n xs := h
theorem Rd.alloc (h : Rd w k A n xs) (o : Obj) : Rd (w.alloc o) k A n xs := h.keep (by simp) fun p hp => World.cell?_alloc_lt w o p hp
theorem Rd.cell (h : Rd w k A n xs) {j : Nat} {u : Value} (hu : xs[j]? = some u) : ∃ ad, A = some ad ∧ ad.block < w.heap.size ∧ w.cell? (ad.add j) = some u := by
 have hj : j < xs.length := (List.getElem?_eq_some_iff.1 hu).1
 obtain ⟨ad, e, hb, hx⟩ := h.2 (by
  rcases Nat.eq_zero_or_pos n with h0 | h0
  · rw [h.1, h0] at hj; omega
  · exact h0)
 exact ⟨ad, e, hb, hx j u hu⟩
theorem Rd.of_own {base : Nat} {e : TypeId} {c : Nat} (h : w.ownsRow base e k (.slice A n c) n xs) : Rd w k A n xs := by
 refine ⟨h.1, fun hn => ?_⟩
 rcases h.2 with ⟨hv, h0⟩ | ⟨g, cap, cur, hv, _, hh, _⟩
 · omega
 · injection hv with hA
   subst hA
   refine ⟨_, rfl, ?_, h.cells (g := g) rfl⟩
   rcases Nat.lt_or_ge g w.heap.size with hlt | hge
   · exact hlt
   · rw [Array.getElem?_eq_none hge] at hh; cases hh
theorem rd_own {base : Nat} {e : TypeId} {v : Value} (h : w.ownsRow base e k v n xs) : ∃ A c, v = .slice A n c ∧ n ≤ c ∧ c ≤ maxLen ∧ Rd w k A n xs := by
 rcases h.2 with ⟨rfl, rfl⟩ | ⟨g, cap, cur, rfl, hg, hh, hnc, hcm, hsz, ht⟩
 · exact ⟨none, 0, rfl, Nat.le_refl _, by unfold maxLen; omega, Rd.of_own (base := base) (e := e) (c := 0) h⟩
 · exact ⟨some ⟨g, 0, none⟩, cap, rfl, hnc, hcm, Rd.of_own h⟩
end
theorem own_below {w w' : World} {base : Nat} {e : TypeId} {k : Nat} {v : Value} {n : Nat} {xs : List Value} (h : w.ownsRow base e k v n xs) (hb : Below w.heap.size w w') : w'.ownsRow base e k v n xs :=
 h.kept (row := none) ⟨hb.os, hb.tape, hb.output, hb.size, fun i hi _ => hb.block i hi⟩ (by
  cases hv : v.ownBlock with
  | none => exact .inl rfl
  | some g => exact .inr (by simp))
theorem app_new {P : Program} {ops : Array Oper} {rest : List Oper} {o : Oper} {a : Act} {Q : Exit → Act → World → Prop} (hgd : o.guard = none) (s x : Operand) (t : TypeId)
 (ho : o.op = .call { callee := .builtin .append, args := #[s, x], argTypes := #[t, t] })
 (w0 wr : World) (e : TypeId) (i : TypeInfo) (z : Value) (size bytes : Nat) (ht : P.underlying t = some (.slice e)) (hi : P.info? e = some i) (hz : i.zero = some z)
 (hsize : i.size = size) (hby : i.bytes = bytes) (hzs : z.cells.size = size) (hsz : 0 < size) (hb64 : bytes ≤ 64)
 {v : Value} {n : Nat} {xs : List Value} (hown : wr.ownsRow w0.heap.size e size v n xs) (hb : Below w0.heap.size w0 wr) (hs : a.eval s = v)
 (m c : Nat) (news : List Value) (hx : a.eval x = .slice (some ⟨wr.heap.size, 0, none⟩) m c) (hl : news.length = m * size) (h1 : ∀ u ∈ news, u.oneCell' = true)
 (hN : n + m ≤ 1000000000)
 (h : ∀ v' w', w'.ownsRow w0.heap.size e size v' (n + m) (xs ++ news) → Below w0.heap.size w0 w' → wpList P ops Q rest (a.put o.dst v') w') :
 wpList P ops Q (o :: rest) a (wr.alloc (.cells news.toArray e)) := by
 have hbytes : (n + m) * bytes ≤ 140737488355328 := Nat.le_trans (Nat.mul_le_mul hN hb64) (by decide)
 refine wpList_append_own _ hgd s x t ho w0.heap.size e i z size bytes ht hi hz hsize hby hzs hsz v n xs hs (hown.alloc _) ⟨wr.heap.size, 0, none⟩ m c news hx hl ?_ h1 (by unfold maxLen; omega) hbytes (Nat.le_trans hb.size (by simp)) ?_
 · intro j u hu
   have hj : j < news.length := (List.getElem?_eq_some_iff.1 hu).1
   rw [add_plain, Nat.zero_add, World.cell?_alloc_at _ _ _ _ rfl]
   simpa using hu
 · intro v' w' hown' hg _
   refine h v' w' hown' ((hb.alloc hb.size _).grown hg (Nat.le_trans hb.size (by simp)) fun q hq => (hown.lt q hq).1)
theorem step_app {P : Program} {ops : Array Oper} {o : Oper} {a : Act} {K : Act → World → Prop} {Q : Exit → Act → World → Prop} {E : Prop} (hgd : o.guard = none) (s x : Operand) (t : TypeId)
 (ho : o.op = .call { callee := .builtin .append, args := #[s, x], argTypes := #[t, t] })
 (w0 : World) {wr : World} (e : TypeId) (i : TypeInfo) (z : Value) (size bytes : Nat) (ht : P.underlying t = some (.slice e)) (hi : P.info? e = some i) (hz : i.zero = some z)
 (hsize : i.size = size) (hby : i.bytes = bytes) (hzs : z.cells.size = size) (hsz : 0 < size) (hb64 : bytes ≤ 64)
 {v : Value} {n : Nat} {xs : List Value} (hown : wr.ownsRow w0.heap.size e size v n xs) (hb : Below w0.heap.size w0 wr) (hs : a.eval s = v)
 (ad : Addr) (m c : Nat) (news : List Value) (hx : a.eval x = .slice (some ad) m c) (hl : news.length = m * size) (hnews : ∀ j u, news[j]? = some u → wr.cell? (ad.add j) = some u) (h1 : ∀ u ∈ news, u.oneCell' = true)
 (hN : n + m ≤ 1000000000)
 (h : ∀ v' w', w'.ownsRow w0.heap.size e size v' (n + m) (xs ++ news) → Below w0.heap.size w0 w' → K (a.put o.dst v') w') :
 if Region.wanted o (yielded ops a.tmps) = true then Oper.wp P o a wr K Q else E := by
 have hw : Region.wanted o (yielded ops a.tmps) = true := by simp [Region.wanted, hgd]
 have hbytes : (n + m) * bytes ≤ 140737488355328 := Nat.le_trans (Nat.mul_le_mul hN hb64) (by decide)
 rw [if_pos hw]
 exact wp_append_own wr s x t ho w0.heap.size e i z size bytes ht hi hz hsize hby hzs hsz v n xs hs hown ad m c news hx hl hnews h1 (by unfold maxLen; omega) hbytes hb.size
  fun v' w' hown' hg _ => h v' w' hown' (hb.grown hg hb.size fun q hq => (hown.lt q hq).1)
def strs (L : List (List UInt8)) : List Value := L.map fun l => .string ⟨l.toArray⟩
theorem strs_length (L : List (List UInt8)) : (strs L).length = L.length := by unfold strs; simp
theorem strs_append (L M : List (List UInt8)) : strs (L ++ M) = strs L ++ strs M := by unfold strs; simp
theorem strs_one (l : List UInt8) : strs [l] = [.string ⟨l.toArray⟩] := rfl
theorem strs_get {L : List (List UInt8)} {j : Nat} (h : j < L.length) : (strs L)[j]? = some (.string ⟨(L[j]).toArray⟩) := by unfold strs; simp [h]
theorem strs_of (L : List ByteArray) : L.map Value.string = strs (L.map (·.data.toList)) := by
 unfold strs; rw [List.map_map]; congr 1
end Go.Proofs.YtjdknhalcpkeaaaGreatDoor
namespace Rte
open Go
structure Ent where
 host : ByteArray
 kind : Int
 key : ByteArray
 val : ByteArray
def Ent.cells (e : Ent) : List Value := [.string e.host, .int .i64 e.kind, .string e.key, .string e.val]
def Ent.agg (e : Ent) : Value := .agg #[.string e.host, .int .i64 e.kind, .string e.key, .string e.val]
def ents (L : List Ent) : List Value := L.flatMap Ent.cells
theorem ents_length (L : List Ent) : (ents L).length = L.length * 4 := by
 unfold ents
 induction L with
 | nil => rfl
 | cons e L ih => simp only [List.flatMap_cons, List.length_append, ih, List.length_cons, Ent.cells]; simp; omega
theorem ents_get (L : List Ent) (i j : Nat) (hi : i < L.length) (hj : j < 4) : (ents L)[i * 4 + j]? = (L[i].cells)[j]? := by
 unfold ents
 induction L generalizing i with
 | nil => cases hi
 | cons e L ih =>
   cases i with
   | zero =>
     rw [List.flatMap_cons, List.getElem?_append_left (by simp [Ent.cells]; omega)]; simp
   | succ i =>
     rw [List.flatMap_cons, List.getElem?_append_right (by simp [Ent.cells]; omega), show (i + 1) * 4 + j - e.cells.length = i * 4 + j by simp [Ent.cells]; omega]
     simpa using ih i (by simpa using hi)
theorem ents_append (L M : List Ent) : ents (L ++ M) = ents L ++ ents M := by unfold ents; simp
theorem ents_one (e : Ent) : ents [e] = e.cells := by unfold ents; simp
theorem cells_one (e : Ent) : ∀ u ∈ e.cells, u.oneCell' = true := by
 intro u hu
 simp only [Ent.cells, List.mem_cons, List.not_mem_nil, or_false] at hu
 rcases hu with rfl | rfl | rfl | rfl <;> rfl
end Rte
namespace Go.Proofs.YtjdknhalcpkeaaaGreatDoor
open Go.RowKit Rte
theorem Rd.ent {w : World} {A : Option Addr} {L : List Ent} (h : Rd w 4 A L.length (ents L)) {i : Nat} (hi : i < L.length) :
 ∃ B O, A = some ⟨B, O, none⟩ ∧ B < w.heap.size ∧ (⟨B, O, none⟩ : Addr).add (i * 4) = ⟨B, O + i * 4, none⟩ ∧ w.cell? ⟨B, O + i * 4, none⟩ = some (.string L[i].host) ∧ w.cell? ⟨B, O + i * 4 + 1, none⟩ = some (.int .i64 L[i].kind) ∧
   w.cell? ⟨B, O + i * 4 + 2, none⟩ = some (.string L[i].key) ∧ w.cell? ⟨B, O + i * 4 + 3, none⟩ = some (.string L[i].val) := by
 obtain ⟨ad, e, hb, hx⟩ := h.2 (by omega)
 have g := fun j (hj : j < 4) => ents_get L i j hi hj
 have h0 := hx (i * 4) _ (by have := g 0 (by omega); simpa [Ent.cells] using this)
 have h1 := hx (i * 4 + 1) _ (by have := g 1 (by omega); simpa [Ent.cells] using this)
 have h2 := hx (i * 4 + 2) _ (by have := g 2 (by omega); simpa [Ent.cells] using this)
 have h3 := hx (i * 4 + 3) _ (by have := g 3 (by omega); simpa [Ent.cells] using this)
 have hs : ad.spot = none := by
  have := World.cell?_spot h1
  unfold Addr.add at this
  split at this
  · exact this
  · have h0' := World.cell?_spot h0
    unfold Addr.add at h0'
    split at h0'
    · exact h0'
    · have h00 := hx 0 _ (by have := ents_get L 0 0 (by omega) (by omega); simpa [Ent.cells] using this)
      exact World.cell?_spot h00
 obtain ⟨B, O, sp⟩ := ad
 obtain rfl : sp = none := hs
 rw [add_plain] at h0 h1 h2 h3
 exact ⟨B, O, e, hb, add_plain _ _ _, h0, h1, h2, h3⟩
end Go.Proofs.YtjdknhalcpkeaaaGreatDoor
namespace Mtr
open Go Ieee
theorem read_word (f : Format) (neg : Bool) (rung : Nat) (h : rung ≤ f.infRung) : (∃ s m p, f.read (f.word neg rung) = .number s m p) ∨ (∃ s, f.read (f.word neg rung) = .infinity s) := by
 have hlt := f.infRung_lt
 have hm : f.word neg rung % f.signWeight = rung := by
  unfold Format.word
  split
  · rw [Nat.add_mod_left, Nat.mod_eq_of_lt (by omega)]
  · rw [Nat.mod_eq_of_lt (by omega)]
 unfold Format.read
 simp only [hm]
 split
 · exact .inl ⟨_, _, _, rfl⟩
 · split
   · exact .inl ⟨_, _, _, rfl⟩
   · rw [if_pos (by omega)]; exact .inr ⟨_, rfl⟩
theorem read_nearest (f : Format) (neg : Bool) (mag : Nat) (place : Int) : (∃ s m p, f.read (f.nearest neg mag place) = .number s m p) ∨ (∃ s, f.read (f.nearest neg mag place) = .infinity s) := by
 unfold Format.nearest
 dsimp only
 split
 · exact read_word f _ _ (Nat.zero_le _)
 · exact read_word f _ _ (Nat.min_le_right ..)
theorem read_thousand : ∃ s m p, double.read 4652007308841189376 = .number s (m + 1) p := ⟨false, 8796093022207999, -43, by decide +kernel⟩
theorem div_thousand (n : Int) : ∃ r, floatBits .quo .f64 (floatOfInt .f64 n) 4652007308841189376 = some r := by
 obtain ⟨s, m, p, h⟩ := read_thousand
 show ∃ r, double.div (double.nearest (n < 0) n.natAbs 0) 4652007308841189376 = some r
 unfold Format.div
 rw [h]
 rcases read_nearest double (n < 0) n.natAbs 0 with ⟨s', m', p', h'⟩ | ⟨s', h'⟩
 · rw [h']; unfold Datum.quotient; exact ⟨_, rfl⟩
 · rw [h']; unfold Datum.quotient; exact ⟨_, rfl⟩
theorem run_thousand {P : Program} (t : TypeId) (n : Int) : ∃ r, ∀ w, (binOp .quo t (.float .f64 (floatOfInt .f64 n)) (.float .f64 4652007308841189376)).run P w = .ok (.float .f64 r) w := by
 obtain ⟨r, h⟩ := div_thousand n
 exact ⟨r, fun w => run_float_arith w .quo t .f64 _ _ r h⟩
end Mtr
