/- Walks: an address of a text: the program's and the reference's. Walks: a prefix of a text: the program's and the reference's; the reference's In. Walks: the reference's In, Digits, IPText, hex, MACText. Walks: the texts of addresses, prefixes, hardware addresses: the program's and the reference's. Walks: the text of a hardware address: the program's. Walks: a prefix' text; a hardware address of a text: the program's and the reference's; the reference's text of one. Walks: a hardware address of a text: the program's and the reference's. Contracts: what is trimmed (package strings), at constant sets. -/
import Derived.Deep.RegionHeld3
import Derived.BigQuiet
import Derived.Deep.QuietTactic
import Derived.BigRegion
import Derived.Deep.RegionLaw
import Derived.Deep.AppendLies
import Derived.Test.YtmhgacgneckboaaGreatDoorShelf
import Derived.Shelf.Strings.SlTrimAscii
import Derived.Test.YtmhgacgneckboaaGreatDoorQd
namespace Adr
open Go
def ipTo (L : List (List UInt8)) (k : Nat) : Int := (L.take k).foldl step 0
theorem ipTo_zero (L : List (List UInt8)) : ipTo L 0 = 0 := by unfold ipTo; rw [List.take_zero]; rfl
theorem ipTo_succ (L : List (List UInt8)) (k : Nat) (h : k < L.length) : ipTo L (k + 1) = step (ipTo L k) L[k] := by
  unfold ipTo
  rw [List.take_succ_eq_append_getElem h, List.foldl_append]; rfl
theorem step_neg (n : Int) (w : List UInt8) (h : n < 0) : step n w = -1 := by unfold step; rw [if_pos (.inl h)]
theorem fold_neg (L : List (List UInt8)) (n : Int) (h : n < 0) : L.foldl step n < 0 := by
  induction L generalizing n with
  | nil => exact h
  | cons a r ih => rw [List.foldl_cons]; exact ih _ (by rw [step_neg n a h]; decide)
theorem ipTo_stop (L : List (List UInt8)) (k : Nat) (h : ipTo L k < 0) : ipTo L L.length < 0 := by
  unfold ipTo at h ⊢
  rw [List.take_length]
  have e := List.take_append_drop k L
  rw [← e, List.foldl_append]
  exact fold_neg _ _ h
theorem ip_not (l : List UInt8) (h : (parts 46 l).length ≠ 4) : ip l = -1 := by
  unfold ip
  split
  · rename_i e; rw [e] at h; simp at h
  · rfl
theorem ip_to (l : List UInt8) (h : (parts 46 l).length = 4) : ip l = ipTo (parts 46 l) 4 := by
  unfold ip ipTo
  generalize parts 46 l = L at h
  match L, h with
  | [a, b, c, d], _ => rfl
theorem ipTo_bd (L : List (List UInt8)) (k : Nat) (hk : k ≤ L.length) (h4 : k ≤ 3) (h0 : 0 ≤ ipTo L k) : ipTo L k < 16777216 := by
  have s : ∀ j, j < L.length → 0 ≤ ipTo L (j + 1) → 0 ≤ ipTo L j ∧ ipTo L (j + 1) ≤ 256 * ipTo L j + 255 := by
    intro j hj h1
    rw [ipTo_succ L j hj] at h1 ⊢
    have := step_ok h1
    omega
  have h00 := ipTo_zero L
  rcases Nat.lt_or_ge 2 k with h | h
  · obtain rfl : k = 3 := by omega
    have a := s 2 (by omega) h0; have b := s 1 (by omega) a.1; have c := s 0 (by omega) b.1
    simp only [Nat.zero_add, Nat.reduceAdd] at a b c; omega
  · rcases Nat.lt_or_ge 1 k with h' | h'
    · obtain rfl : k = 2 := by omega
      have b := s 1 (by omega) h0; have c := s 0 (by omega) b.1
      simp only [Nat.zero_add, Nat.reduceAdd] at b c; omega
    · rcases Nat.lt_or_ge 0 k with h2 | h2
      · obtain rfl : k = 1 := by omega
        have c := s 0 (by omega) h0
        simp only [Nat.zero_add] at c; omega
      · obtain rfl : k = 0 := by omega
        omega
theorem step_yes {n : Int} {w : List UInt8} (h0 : 0 ≤ n) (h : numIn w 0 255 = true) : step n w = 256 * n + num w := by
  have := (numIn_iff _ _ _).1 h
  unfold step; rw [if_neg (by omega)]
theorem step_no {n : Int} {w : List UInt8} (h : numIn w 0 255 = false) : step n w = -1 := by
  unfold step; rw [if_pos]
  rw [Bool.eq_false_iff] at h
  have h2 : ¬ (0 ≤ num w ∧ 0 ≤ num w ∧ num w ≤ 255) := fun a => h ((numIn_iff w 0 255).2 a)
  omega
theorem or_add (a b : Int) (ha : 0 ≤ a) (ha2 : a < 16777216) (hb : 0 ≤ b) (hb2 : b ≤ 255) : bits .or .i64 (a * 256) b = 256 * a + b := by
  obtain ⟨x, rfl⟩ := Int.eq_ofNat_of_zero_le ha
  obtain ⟨y, rfl⟩ := Int.eq_ofNat_of_zero_le hb
  have e : ((x : Int) * 256) = ((256 * x : Nat) : Int) := by omega
  have hle : 256 * x ||| y = 256 * x + y := by
    have := Nat.two_pow_add_eq_or_of_lt (i := 8) (b := y) (by omega) x
    rw [show (2 : Nat) ^ 8 = 256 by decide] at this
    exact this.symm
  rw [e]
  show IntKind.i64.wrap ((BitVec.ofInt 64 ((256 * x : Nat) : Int) ||| BitVec.ofInt 64 (y : Int)).toNat : Int) = _
  rw [BitVec.toNat_or, ofInt_i64 _ (by omega), ofInt_i64 _ (by omega), hle, wrap_nat _ (by omega)]; omega
end Adr
namespace Go.Proofs.YtmhgacgneckboaaGreatDoor
open Go.RowKit

/-- A number that is there, or (0, false). -/
def okRet (n : Int) : Value := .tuple #[.int .i64 (max n 0), .bool (decide (0 ≤ n))]
theorem okRet_yes {n : Int} (h : 0 ≤ n) : okRet n = .tuple #[.int .i64 n, .bool true] := by
  unfold okRet; rw [show max n 0 = n by omega]; simp [h]
theorem okRet_no {n : Int} (h : n < 0) : okRet n = .tuple #[.int .i64 0, .bool false] := by
  unfold okRet; rw [show max n 0 = 0 by omega]; simp; omega

end Go.Proofs.YtmhgacgneckboaaGreatDoor

namespace Adr
open Go
theorem pre_parts (l : List UInt8) (h : (parts 47 l).length ≠ 2) : pre l = (-1, 0) := by
  unfold pre
  split
  · rename_i e; rw [e] at h; simp at h
  · rfl
theorem pre_two (l a b : List UInt8) (h : parts 47 l = [a, b]) : pre l = if good (ip a) (num b) then (ip a, num b) else (-1, 0) := by
  unfold pre; rw [h]
theorem good_no {n k : Int} (h : ¬ (0 ≤ n ∧ 0 ≤ k ∧ k ≤ 32 ∧ right n k = true)) : good n k = false := by
  rw [Bool.eq_false_iff]
  unfold good
  simp only [ne_eq, Bool.and_eq_true, decide_eq_true_eq]
  rintro ⟨⟨⟨a, b⟩, c⟩, d⟩
  exact h ⟨a, b, c, d⟩
theorem first_slash (l : List UInt8) (h : (47 : UInt8) ∈ l) : ∃ a r, l = a ++ 47 :: r ∧ (47 : UInt8) ∉ a := first_at 47 l h
theorem numIn_32 {b : List UInt8} (h : numIn b 0 32 = true) : 0 ≤ num b ∧ num b ≤ 32 := by
  have := (numIn_iff _ _ _).1 h; omega
theorem not_numIn_32 {b : List UInt8} (h : numIn b 0 32 = false) : ¬ (0 ≤ num b ∧ num b ≤ 32) := by
  intro a
  have := (numIn_iff b 0 32).2 ⟨a.1, a.1, a.2⟩
  rw [h] at this; cases this
end Adr
namespace Go.Proofs.YtmhgacgneckboaaGreatDoor
open Go.RowKit

/-- A prefix that is there, or (0, 0, false). -/
def preRet (p : Int × Int) : Value := .tuple #[.int .i64 (max p.1 0), .int .i64 p.2, .bool (decide (0 ≤ p.1))]
theorem preRet_yes {p : Int × Int} (h : 0 ≤ p.1) : preRet p = .tuple #[.int .i64 p.1, .int .i64 p.2, .bool true] := by
  unfold preRet; rw [show max p.1 0 = p.1 by omega]; simp [h]
theorem preRet_no : preRet (-1, 0) = .tuple #[.int .i64 0, .int .i64 0, .bool false] := by
  unfold preRet; simp; decide

end Go.Proofs.YtmhgacgneckboaaGreatDoor

namespace Adr
open Go
theorem in_pw (n b ip : Int) (hr : right n b = true) (h0 : 0 ≤ ip) (h1 : ip < 4294967296) : (ip / pw (32 - b) == n / pw (32 - b)) = isIn n b ip := by
  obtain ⟨n0, n1, b0, b1, _⟩ := right_bd hr
  obtain ⟨a, rfl⟩ := Int.eq_ofNat_of_zero_le n0
  obtain ⟨c, rfl⟩ := Int.eq_ofNat_of_zero_le h0
  rw [pw_nat b b0 b1, Bool.eq_iff_iff]
  unfold isIn
  rw [hr]
  simp only [beq_iff_eq, Bool.and_eq_true, decide_eq_true_eq, Bool.true_and, Int.toNat_natCast]
  generalize 2 ^ (32 - b.toNat) = m
  rw [← Int.natCast_ediv, ← Int.natCast_ediv]
  omega
end Adr
namespace Go.Proofs.YtmhgacgneckboaaGreatDoor
open Go.RowKit

theorem quiet_left {P : Program} {f : FuncId} {args : Array Value} {w : World} {n : Nat} {v : Value} (h : Calls P f args (w.drewN n) fun e w' => e = .returned v ∧ w.drewN n = w') :
    Calls P f args (w.drewN n) fun e w'' => e = .returned v ∧ ∃ m, w'' = w.drewN m := h.mono fun _ _ ⟨he, hm⟩ => ⟨he, n, hm.symm⟩


/-- string([]byte{..}) of what the call has just laid. -/
theorem conv_new (W : World) (l : List UInt8) : (convert 70 9 (.slice (some ⟨W.heap.size, 0, none⟩) l.length l.length)).run Tryz.prog (W.alloc (.cells (l.map fun b => Value.int .u8 (b.toNat : Int)).toArray 5)) =
    .ok (.string ⟨l.toArray⟩) (W.alloc (.cells (l.map fun b => Value.int .u8 (b.toNat : Int)).toArray 5)) := by
  refine run_convert_bytes_back _ 70 9 5 _ _ l Tryz.underlying70 Tryz.underlying5 Tryz.underlying9 fun j hj => ?_
  rw [add_plain, Nat.zero_add, World.cell?_alloc_at _ _ _ _ rfl]
  simp [hj]
theorem byte_toNat (x : Int) (h0 : 0 ≤ x) (h : x < 256) : ((UInt8.ofNat x.toNat).toNat : Int) = x := by
  simp; omega
theorem conv_one (W : World) (x : Int) (h0 : 0 ≤ x) (h : x < 256) : (convert 70 9 (.slice (some ⟨W.heap.size, 0, none⟩) 1 1)).run Tryz.prog (W.alloc (.cells #[.int .u8 x] 5)) =
    .ok (.string ⟨#[UInt8.ofNat x.toNat]⟩) (W.alloc (.cells #[.int .u8 x] 5)) := by
  have := conv_new W [UInt8.ofNat x.toNat]
  simp only [List.map_cons, List.map_nil, byte_toNat x h0 h] at this
  exact this

theorem hexd_lo {n : Int} (h0 : 0 ≤ n) (h : n < 10) : UInt8.ofNat (48 + n).toNat = Adr.hexd n.toNat := by
  unfold Adr.hexd; rw [if_pos (by omega), show (48 + n).toNat = 48 + n.toNat by omega]
theorem hexd_hi {n : Int} (h : 10 ≤ n) : UInt8.ofNat (97 + n - 10).toNat = Adr.hexd n.toNat := by
  unfold Adr.hexd; rw [if_neg (by omega), show (97 + n - 10).toNat = 87 + n.toNat by omega]


theorem dig_small {n : Int} (h0 : 0 ≤ n) (h : n < 10) : Lib.decDigits n.toNat = [UInt8.ofNat (48 + n % 10).toNat] := by
  rw [Lib.decDigits, dif_pos (by omega)]; congr 2; omega
theorem dec_len (n : Nat) : (Lib.decDigits n).length ≤ n + 1 := by
  induction n using Nat.strongRecOn with
  | _ n ih =>
    rw [Lib.decDigits]
    split
    · simp
    · have := ih (n / 10) (by omega)
      simp; omega
theorem str_append (l m : List UInt8) : ((⟨l.toArray⟩ : ByteArray) ++ (⟨m.toArray⟩ : ByteArray)) = ⟨(l ++ m).toArray⟩ := by
  apply ByteArray.ext; simp
theorem dig_big {n : Int} (h : 10 ≤ n) : Lib.decDigits n.toNat = Lib.decDigits (n / 10).toNat ++ [UInt8.ofNat (48 + n % 10).toNat] := by
  rw [Lib.decDigits, dif_neg (by omega)]
  congr 2
  · congr 1; omega
  · congr 1; omega

end Go.Proofs.YtmhgacgneckboaaGreatDoor

namespace Adr
open Go Go.Lib
def ipParts (n : Nat) : List (List UInt8) := [decDigits (n / 16777216), decDigits (n / 65536 % 256), decDigits (n / 256 % 256), decDigits (n % 256)]
theorem ipText_parts' (n : Nat) : ipText n = glue 46 (ipParts n) := rfl
end Adr
namespace Go.Proofs.YtmhgacgneckboaaGreatDoor
open Go.RowKit

/-- A short numeral. -/
def Short (n : Int) (w : World) (e : Ending) (w' : World) : Prop := ∃ D : List UInt8, e = .returned (.string ⟨D.toArray⟩) ∧ D.length ≤ 300 ∧ Hid (D = Lib.decDigits n.toNat) ∧ Below w.heap.size w w'
theorem itoa_short (n : Int) (w : World) (hE : Env w) (h0 : 0 ≤ n) (h : n < 256) : Calls Tryz.prog 41 #[.int .i64 n] w (Short n w) :=
  (itoa_any n w hE (by omega) (by omega)).mono fun _ _ ⟨he, hb⟩ => ⟨Lib.decDigits n.toNat, by rw [he]; unfold Lib.itoa; rw [if_neg (by omega)], by have := dec_len n.toNat; omega, Lib.hid rfl, hb⟩
theorem str_eq {s : ByteArray} {l : List UInt8} (h : s.data.toList = l) : s = ⟨l.toArray⟩ := by rw [← h, mk_data]


theorem and_255 (x : Int) (h0 : 0 ≤ x) (h : x < 9223372036854775808) : bits .and .i64 x 255 = x % 256 := by
  obtain ⟨a, rfl⟩ := Int.eq_ofNat_of_zero_le h0
  have e : (255 : Int) = ((255 : Nat) : Int) := rfl
  rw [e, Adr.and_nat a 255 (by omega) (by decide)]
  have := Nat.and_two_pow_sub_one_eq_mod a 8
  simp only [Nat.reducePow, Nat.add_one_sub_one] at this
  rw [show (255 : Nat) = 256 - 1 by decide, this]; omega

end Go.Proofs.YtmhgacgneckboaaGreatDoor

namespace Go.Proofs.YtmhgacgneckboaaGreatDoor
open Go.RowKit

def hexs : ByteArray := ⟨#[48, 49, 50, 51, 52, 53, 54, 55, 56, 57, 97, 98, 99, 100, 101, 102]⟩
set_option maxRecDepth 100000 in
theorem index_hex (i : Int) (h0 : 0 ≤ i) (h : i < 16) (W : World) : (Instr.index 9 (.string ⟨#[48, 49, 50, 51, 52, 53, 54, 55, 56, 57, 97, 98, 99, 100, 101, 102]⟩) (.int .i64 i)).run Tryz.prog W = .ok (.int .u8 ((Adr.hexd i.toNat).toNat : Int)) W := by
  have hc : i = 0 ∨ i = 1 ∨ i = 2 ∨ i = 3 ∨ i = 4 ∨ i = 5 ∨ i = 6 ∨ i = 7 ∨ i = 8 ∨ i = 9 ∨ i = 10 ∨ i = 11 ∨ i = 12 ∨ i = 13 ∨ i = 14 ∨ i = 15 := by omega
  rcases hc with rfl | rfl | rfl | rfl | rfl | rfl | rfl | rfl | rfl | rfl | rfl | rfl | rfl | rfl | rfl | rfl <;> rfl
theorem conv_two (W : World) (a b : UInt8) : (convert 70 9 (.slice (some ⟨W.heap.size, 0, none⟩) 2 2)).run Tryz.prog (W.alloc (.cells #[.int .u8 (a.toNat : Int), .int .u8 (b.toNat : Int)] 5)) =
    .ok (.string ⟨#[a, b]⟩) (W.alloc (.cells #[.int .u8 (a.toNat : Int), .int .u8 (b.toNat : Int)] 5)) := conv_new W [a, b]
theorem conv_two_drew (W : World) (a b : UInt8) : (convert 70 9 (.slice (some ⟨W.heap.size, 0, none⟩) 2 2)).run Tryz.prog (W.alloc (.cells #[.int .u8 (a.toNat : Int), .int .u8 (b.toNat : Int)] 5)).drew =
    .ok (.string ⟨#[a, b]⟩) (W.alloc (.cells #[.int .u8 (a.toNat : Int), .int .u8 (b.toNat : Int)] 5)).drew := by
  refine run_convert_bytes_back _ 70 9 5 _ _ [a, b] Tryz.underlying70 Tryz.underlying5 Tryz.underlying9 fun j hj => ?_
  show (W.alloc _).cell? _ = _
  rw [add_plain, Nat.zero_add, World.cell?_alloc_at _ _ _ _ rfl]
  match j, hj with
  | 0, _ => rfl
  | 1, _ => rfl
theorem and_15 (x : Int) (h0 : 0 ≤ x) (h : x < 9223372036854775808) : bits .and .i64 x 15 = x % 16 := by
  obtain ⟨a, rfl⟩ := Int.eq_ofNat_of_zero_le h0
  have e : (15 : Int) = ((15 : Nat) : Int) := rfl
  rw [e, Adr.and_nat a 15 (by omega) (by decide)]
  have := Nat.and_two_pow_sub_one_eq_mod a 4
  rw [show (2 : Nat) ^ 4 - 1 = 15 by decide, show (2 : Nat) ^ 4 = 16 by decide] at this
  rw [this]; omega

def macParts (n : Nat) : List (List UInt8) := [Adr.mac2 (n / 1099511627776 % 256), Adr.mac2 (n / 4294967296 % 256), Adr.mac2 (n / 16777216 % 256), Adr.mac2 (n / 65536 % 256), Adr.mac2 (n / 256 % 256), Adr.mac2 (n % 256)]
theorem mac_glue (n : Nat) : Adr.macText n = Adr.glue 58 (macParts n) := rfl

theorem news_one (W : World) (x : Value) (T H : Nat) (hH : W.heap.size = H) : ∀ j u, [x][j]? = some u → (W.alloc (.cells #[x] T)).drew.cell? ((⟨H, 0, none⟩ : Addr).add j) = some u := by
  intro j u hu
  subst hH
  show (W.alloc _).cell? _ = _
  rw [add_plain, Nat.zero_add, World.cell?_alloc_at _ _ _ _ rfl]
  simpa using hu
theorem macPart_at (n : Int) (k : Nat) (sh : Int) (hsh : sh = 40 - 8 * (k : Int)) (hk : k < 6) (h0 : 0 ≤ n) (h : n < 281474976710656) :
    bits .and .i64 (n / 2 ^ sh.toNat) 255 = n / 2 ^ sh.toNat % 256 ∧ (macParts n.toNat)[k]? = some (Adr.mac2 (n / 2 ^ sh.toNat % 256).toNat) := by
  have hc : k = 0 ∨ k = 1 ∨ k = 2 ∨ k = 3 ∨ k = 4 ∨ k = 5 := by omega
  have e : sh.toNat = 40 - 8 * k := by omega
  rw [e]
  rcases hc with rfl | rfl | rfl | rfl | rfl | rfl
  · rw [show (2 : Int) ^ (40 - 8 * 0) = 1099511627776 by decide]
    exact ⟨and_255 _ (by omega) (by omega), by rw [show (n / 1099511627776 % 256).toNat = n.toNat / 1099511627776 % 256 by omega]; rfl⟩
  · rw [show (2 : Int) ^ (40 - 8 * 1) = 4294967296 by decide]
    exact ⟨and_255 _ (by omega) (by omega), by rw [show (n / 4294967296 % 256).toNat = n.toNat / 4294967296 % 256 by omega]; rfl⟩
  · rw [show (2 : Int) ^ (40 - 8 * 2) = 16777216 by decide]
    exact ⟨and_255 _ (by omega) (by omega), by rw [show (n / 16777216 % 256).toNat = n.toNat / 16777216 % 256 by omega]; rfl⟩
  · rw [show (2 : Int) ^ (40 - 8 * 3) = 65536 by decide]
    exact ⟨and_255 _ (by omega) (by omega), by rw [show (n / 65536 % 256).toNat = n.toNat / 65536 % 256 by omega]; rfl⟩
  · rw [show (2 : Int) ^ (40 - 8 * 4) = 256 by decide]
    exact ⟨and_255 _ (by omega) (by omega), by rw [show (n / 256 % 256).toNat = n.toNat / 256 % 256 by omega]; rfl⟩
  · rw [show (2 : Int) ^ (40 - 8 * 5) = 1 by decide]
    exact ⟨and_255 _ (by omega) (by omega), by rw [show (n / 1 % 256).toNat = n.toNat % 256 by omega]; rfl⟩
theorem push_part {L : List (List UInt8)} {k : Nat} {p : List UInt8} (h : L[k]? = some p) : strs (L.take (k + 1)) = strs (L.take k) ++ [.string ⟨p.toArray⟩] := by
  obtain ⟨hk, e⟩ := List.getElem?_eq_some_iff.1 h
  rw [List.take_succ_eq_append_getElem hk, strs_append, e]; rfl
theorem mac2_int (k : Int) (h0 : 0 ≤ k) : Adr.mac2 k.toNat = [Adr.hexd (k / 16).toNat, Adr.hexd (k % 16).toNat] := by
  unfold Adr.mac2
  rw [show (k / 16).toNat = k.toNat / 16 by omega, show (k % 16).toNat = k.toNat % 16 by omega]
end Go.Proofs.YtmhgacgneckboaaGreatDoor

namespace Adr
open Go
def macLow (n k : Nat) : List UInt8 := glue 58 ((Go.Proofs.YtmhgacgneckboaaGreatDoor.macParts n).drop (6 - k))
theorem macLow_zero (n : Nat) : macLow n 0 = [] := rfl
theorem macLow_all (n : Nat) : macLow n 6 = macText n := rfl
theorem macLow_len (n k : Nat) (hk : k ≤ 6) : (macLow n k).length ≤ 18 := by
  have hc : k = 0 ∨ k = 1 ∨ k = 2 ∨ k = 3 ∨ k = 4 ∨ k = 5 ∨ k = 6 := by omega
  rcases hc with rfl | rfl | rfl | rfl | rfl | rfl | rfl <;> simp [macLow, Go.Proofs.YtmhgacgneckboaaGreatDoor.macParts, glue, mac2]
/-- The part that the k-th round lays ahead. -/
def macByte (n : Int) : Nat → Int
  | 0 => n
  | k + 1 => macByte n k / 256
theorem macByte_zero (n : Int) : macByte n 0 = n := rfl
theorem macByte_succ (n : Int) (k : Nat) : macByte n (k + 1) = macByte n k / 256 := rfl
theorem macByte_bd (n : Int) (k : Nat) (h0 : 0 ≤ n) (h : n < 281474976710656) : 0 ≤ macByte n k ∧ macByte n k < 281474976710656 := by
  induction k with
  | zero => rw [macByte_zero]; exact ⟨h0, h⟩
  | succ k ih => rw [macByte_succ]; omega
theorem macByte_eq (n : Int) (k : Nat) (hk : k < 6) : macByte n k = n / (if k = 0 then 1 else if k = 1 then 256 else if k = 2 then 65536 else if k = 3 then 16777216 else if k = 4 then 4294967296 else 1099511627776) := by
  have hc : k = 0 ∨ k = 1 ∨ k = 2 ∨ k = 3 ∨ k = 4 ∨ k = 5 := by omega
  rcases hc with rfl | rfl | rfl | rfl | rfl | rfl <;> simp [macByte] <;> omega
theorem macLow_succ (n : Int) (k : Nat) (hk : k < 6) (h0 : 0 ≤ n) : macLow n.toNat (k + 1) = mac2 (macByte n k % 256).toNat ++ (if 0 < k then 58 :: macLow n.toNat k else macLow n.toNat k) := by
  rw [macByte_eq n k hk]
  have hc : k = 0 ∨ k = 1 ∨ k = 2 ∨ k = 3 ∨ k = 4 ∨ k = 5 := by omega
  rcases hc with rfl | rfl | rfl | rfl | rfl | rfl
  · rw [show (n / (if 0 = 0 then 1 else if 0 = 1 then 256 else if 0 = 2 then 65536 else if 0 = 3 then 16777216 else if 0 = 4 then 4294967296 else 1099511627776) % 256).toNat = n.toNat % 256 by simp; omega]
    simp [macLow, Go.Proofs.YtmhgacgneckboaaGreatDoor.macParts, glue]
  · rw [show (n / (if 1 = 0 then 1 else if 1 = 1 then 256 else if 1 = 2 then 65536 else if 1 = 3 then 16777216 else if 1 = 4 then 4294967296 else 1099511627776) % 256).toNat = n.toNat / 256 % 256 by simp; omega]
    rfl
  · rw [show (n / (if 2 = 0 then 1 else if 2 = 1 then 256 else if 2 = 2 then 65536 else if 2 = 3 then 16777216 else if 2 = 4 then 4294967296 else 1099511627776) % 256).toNat = n.toNat / 65536 % 256 by simp; omega]
    rfl
  · rw [show (n / (if 3 = 0 then 1 else if 3 = 1 then 256 else if 3 = 2 then 65536 else if 3 = 3 then 16777216 else if 3 = 4 then 4294967296 else 1099511627776) % 256).toNat = n.toNat / 16777216 % 256 by simp; omega]
    rfl
  · rw [show (n / (if 4 = 0 then 1 else if 4 = 1 then 256 else if 4 = 2 then 65536 else if 4 = 3 then 16777216 else if 4 = 4 then 4294967296 else 1099511627776) % 256).toNat = n.toNat / 4294967296 % 256 by simp; omega]
    rfl
  · rw [show (n / (if 5 = 0 then 1 else if 5 = 1 then 256 else if 5 = 2 then 65536 else if 5 = 3 then 16777216 else if 5 = 4 then 4294967296 else 1099511627776) % 256).toNat = n.toNat / 1099511627776 % 256 by simp; omega]
    rfl
end Adr
namespace Go.Proofs.YtmhgacgneckboaaGreatDoor
open Go.RowKit

theorem str_nil : (⟨#[]⟩ : ByteArray) = ⟨([] : List UInt8).toArray⟩ := rfl
theorem pre_text_len (n : Nat) (h : n < 4294967296) : (Adr.ipText n).length ≤ 1300 := by
  have := glue_len 46 (Adr.ipParts n) 300 (by
    intro p hp
    unfold Adr.ipParts at hp
    simp only [List.mem_cons, List.not_mem_nil, or_false] at hp
    have a := dec_len (n / 16777216); have b := dec_len (n / 65536 % 256); have c := dec_len (n / 256 % 256); have d := dec_len (n % 256)
    rcases hp with rfl | rfl | rfl | rfl <;> omega)
  rw [Adr.ipText_parts']
  exact Nat.le_trans this (by show 4 * 301 ≤ _; decide)


end Go.Proofs.YtmhgacgneckboaaGreatDoor

namespace Adr
open Go
def mTo (L : List (List UInt8)) (k : Nat) : Int := (L.take k).foldl mstep 0
theorem mTo_zero (L : List (List UInt8)) : mTo L 0 = 0 := by unfold mTo; rw [List.take_zero]; rfl
theorem mTo_succ (L : List (List UInt8)) (k : Nat) (h : k < L.length) : mTo L (k + 1) = mstep (mTo L k) L[k] := by
  unfold mTo
  rw [List.take_succ_eq_append_getElem h, List.foldl_append]; rfl
theorem mstep_neg (n : Int) (w : List UInt8) (h : n < 0) : mstep n w = -1 := by
  unfold mstep; split
  · rw [if_pos (.inl h)]
  · rfl
theorem mfold_neg (L : List (List UInt8)) (n : Int) (h : n < 0) : L.foldl mstep n < 0 := by
  induction L generalizing n with
  | nil => exact h
  | cons a r ih => rw [List.foldl_cons]; exact ih _ (by rw [mstep_neg n a h]; decide)
theorem mTo_stop (L : List (List UInt8)) (k : Nat) (h : mTo L k < 0) : mTo L L.length < 0 := by
  unfold mTo at h ⊢
  rw [List.take_length]
  have e := List.take_append_drop k L
  rw [← e, List.foldl_append]
  exact mfold_neg _ _ h
theorem mac_not (l : List UInt8) (h : (parts 58 l).length ≠ 6) : mac l = -1 := by
  unfold mac
  split
  · rename_i e; rw [e] at h; simp at h
  · rfl
theorem mac_to (l : List UInt8) (h : (parts 58 l).length = 6) : mac l = mTo (parts 58 l) 6 := by
  unfold mac mTo
  generalize parts 58 l = L at h
  match L, h with
  | [a, b, c, d, e, f], _ => rfl
theorem mTo_bd (L : List (List UInt8)) (k : Nat) (hk : k ≤ L.length) (h0 : 0 ≤ mTo L k) : mTo L k < 256 ^ k := by
  induction k with
  | zero => rw [mTo_zero]; decide
  | succ k ih =>
    rw [mTo_succ L k hk] at h0 ⊢
    obtain ⟨h1, q, hq, _, e⟩ := mstep_ok h0
    have := ih (by omega) h1
    rw [e, Int.pow_succ]; omega
theorem mTo_small (L : List (List UInt8)) (k : Nat) (hk : k ≤ L.length) (h5 : k ≤ 5) (h0 : 0 ≤ mTo L k) : mTo L k < 1099511627776 := by
  have h := mTo_bd L k hk h0
  have hc : k = 0 ∨ k = 1 ∨ k = 2 ∨ k = 3 ∨ k = 4 ∨ k = 5 := by omega
  rcases hc with rfl | rfl | rfl | rfl | rfl | rfl <;> simp at h <;> omega
theorem mstep_two (n : Int) (x y : UInt8) : mstep n [x, y] = if n < 0 ∨ hv x < 0 ∨ hv y < 0 then -1 else 256 * n + 16 * hv x + hv y := rfl
theorem mstep_len (n : Int) (w : List UInt8) (h : w.length ≠ 2) : mstep n w = -1 := by
  unfold mstep
  split
  · simp at h
  · rfl
theorem hv_bd (c : UInt8) : -1 ≤ hv c ∧ hv c ≤ 15 := by
  unfold hv; split
  · omega
  · split <;> omega
end Adr
namespace Go.Proofs.YtmhgacgneckboaaGreatDoor
open Go.RowKit

end Go.Proofs.YtmhgacgneckboaaGreatDoor

namespace Go.Proofs.YtmhgacgneckboaaGreatDoor
open Go Go.RowKit

theorem bytes_eq_iff {a b : ByteArray} : (a.toList == b.toList) = decide (a = b) := by
  rw [Bool.eq_iff_iff, beq_iff_eq, decide_eq_true_eq]
  exact ⟨fun h => ByteArray.ext (Array.toList_inj.1 (by rwa [Lib.toList_data, Lib.toList_data] at h)), fun h => by rw [h]⟩
theorem nonempty_list {s : ByteArray} (h : 0 < s.size) : s.toList.isEmpty = false := by
  rw [Lib.toList_data, List.isEmpty_eq_false_iff]; intro e
  have : s.data.toList.length = 0 := by rw [e]; rfl
  rw [size_data] at this; omega
theorem info_set : (Tryz.prog.info? 65).map (fun i => (i.zero, i.size)) = some (some (.agg (Array.replicate 256 (.bool false))), 256) := by kernel_rfl
theorem trimRight_any (s chars : ByteArray) (w : World) (hs : s.size ≤ 100000000) (hc2 : chars.size ≤ 100000000) (hascii : chars.data.toList.all (fun b => decide (b.toNat < 128)) = true) :
    Calls Tryz.prog 35 #[.string s, .string chars] w fun e w' => e = .returned (.string ⟨(Lib.trimRightS s.data.toList chars.data.toList).toArray⟩) ∧ Below w.heap.size w w' :=
  Any.strings_TrimRight_laid Tryz.lays162 info_set s chars w (by omega) (by omega) (ascii_of_all hascii)
theorem trim_any (s chars : ByteArray) (w : World) (hs : s.size ≤ 100000000) (hc2 : chars.size ≤ 100000000) (hascii : chars.data.toList.all (fun b => decide (b.toNat < 128)) = true) :
    Calls Tryz.prog 43 #[.string s, .string chars] w fun e w' => e = .returned (.string ⟨(Lib.trimS s.data.toList chars.data.toList).toArray⟩) ∧ Below w.heap.size w w' :=
  Any.strings_Trim_laid Tryz.lays160 info_set s chars w (by omega) (by omega) (ascii_of_all hascii)
end Go.Proofs.YtmhgacgneckboaaGreatDoor
