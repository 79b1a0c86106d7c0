/- Walks: the text of a hardware address: the program's. -/
import Derived.Test.YtlojeeakjgalpaaDoorTxtA
import Derived.BigRegion
import Derived.Deep.RegionLaw
import Derived.Deep.RegionHeld3
import Derived.Deep.AppendLies
namespace Go.Proofs.YtlojeeakjgalpaaDoor
open Go.RowKit

def hexs : ByteArray := ⟨#[48, 49, 50, 51, 52, 53, 54, 55, 56, 57, 97, 98, 99, 100, 101, 102]⟩
set_option maxRecDepth 100000 in
theorem index_hex (i : Int) (h0 : 0 ≤ i) (h : i < 16) (W : World) : (Instr.index 9 (.string ⟨#[48, 49, 50, 51, 52, 53, 54, 55, 56, 57, 97, 98, 99, 100, 101, 102]⟩) (.int .i64 i)).run Tryd.prog W = .ok (.int .u8 ((Adr.hexd i.toNat).toNat : Int)) W := by
  have hc : i = 0 ∨ i = 1 ∨ i = 2 ∨ i = 3 ∨ i = 4 ∨ i = 5 ∨ i = 6 ∨ i = 7 ∨ i = 8 ∨ i = 9 ∨ i = 10 ∨ i = 11 ∨ i = 12 ∨ i = 13 ∨ i = 14 ∨ i = 15 := by omega
  rcases hc with rfl | rfl | rfl | rfl | rfl | rfl | rfl | rfl | rfl | rfl | rfl | rfl | rfl | rfl | rfl | rfl <;> rfl
theorem conv_two (W : World) (a b : UInt8) : (convert 75 9 (.slice (some ⟨W.heap.size, 0, none⟩) 2 2)).run Tryd.prog (W.alloc (.cells #[.int .u8 (a.toNat : Int), .int .u8 (b.toNat : Int)] 5)) =
    .ok (.string ⟨#[a, b]⟩) (W.alloc (.cells #[.int .u8 (a.toNat : Int), .int .u8 (b.toNat : Int)] 5)) := conv_new W [a, b]
theorem conv_two_drew (W : World) (a b : UInt8) : (convert 75 9 (.slice (some ⟨W.heap.size, 0, none⟩) 2 2)).run Tryd.prog (W.alloc (.cells #[.int .u8 (a.toNat : Int), .int .u8 (b.toNat : Int)] 5)).drew =
    .ok (.string ⟨#[a, b]⟩) (W.alloc (.cells #[.int .u8 (a.toNat : Int), .int .u8 (b.toNat : Int)] 5)).drew := by
  refine run_convert_bytes_back _ 75 9 5 _ _ [a, b] Tryd.underlying75 Tryd.underlying5 Tryd.underlying9 fun j hj => ?_
  show (W.alloc _).cell? _ = _
  rw [add_plain, Nat.zero_add, World.cell?_alloc_at _ _ _ _ rfl]
  match j, hj with
  | 0, _ => rfl
  | 1, _ => rfl
theorem and_15 (x : Int) (h0 : 0 ≤ x) (h : x < 9223372036854775808) : bits .and .i64 x 15 = x % 16 := by
  obtain ⟨a, rfl⟩ := Int.eq_ofNat_of_zero_le h0
  have e : (15 : Int) = ((15 : Nat) : Int) := rfl
  rw [e, Adr.and_nat a 15 (by omega) (by decide)]
  have := Nat.and_two_pow_sub_one_eq_mod a 4
  rw [show (2 : Nat) ^ 4 - 1 = 15 by decide, show (2 : Nat) ^ 4 = 16 by decide] at this
  rw [this]; omega

def macParts (n : Nat) : List (List UInt8) := [Adr.mac2 (n / 1099511627776 % 256), Adr.mac2 (n / 4294967296 % 256), Adr.mac2 (n / 16777216 % 256), Adr.mac2 (n / 65536 % 256), Adr.mac2 (n / 256 % 256), Adr.mac2 (n % 256)]
theorem mac_glue (n : Nat) : Adr.macText n = Adr.glue 58 (macParts n) := rfl

theorem news_one (W : World) (x : Value) (T H : Nat) (hH : W.heap.size = H) : ∀ j u, [x][j]? = some u → (W.alloc (.cells #[x] T)).drew.cell? ((⟨H, 0, none⟩ : Addr).add j) = some u := by
  intro j u hu
  subst hH
  show (W.alloc _).cell? _ = _
  rw [add_plain, Nat.zero_add, World.cell?_alloc_at _ _ _ _ rfl]
  simpa using hu
theorem macPart_at (n : Int) (k : Nat) (sh : Int) (hsh : sh = 40 - 8 * (k : Int)) (hk : k < 6) (h0 : 0 ≤ n) (h : n < 281474976710656) :
    bits .and .i64 (n / 2 ^ sh.toNat) 255 = n / 2 ^ sh.toNat % 256 ∧ (macParts n.toNat)[k]? = some (Adr.mac2 (n / 2 ^ sh.toNat % 256).toNat) := by
  have hc : k = 0 ∨ k = 1 ∨ k = 2 ∨ k = 3 ∨ k = 4 ∨ k = 5 := by omega
  have e : sh.toNat = 40 - 8 * k := by omega
  rw [e]
  rcases hc with rfl | rfl | rfl | rfl | rfl | rfl
  · rw [show (2 : Int) ^ (40 - 8 * 0) = 1099511627776 by decide]
    exact ⟨and_255 _ (by omega) (by omega), by rw [show (n / 1099511627776 % 256).toNat = n.toNat / 1099511627776 % 256 by omega]; rfl⟩
  · rw [show (2 : Int) ^ (40 - 8 * 1) = 4294967296 by decide]
    exact ⟨and_255 _ (by omega) (by omega), by rw [show (n / 4294967296 % 256).toNat = n.toNat / 4294967296 % 256 by omega]; rfl⟩
  · rw [show (2 : Int) ^ (40 - 8 * 2) = 16777216 by decide]
    exact ⟨and_255 _ (by omega) (by omega), by rw [show (n / 16777216 % 256).toNat = n.toNat / 16777216 % 256 by omega]; rfl⟩
  · rw [show (2 : Int) ^ (40 - 8 * 3) = 65536 by decide]
    exact ⟨and_255 _ (by omega) (by omega), by rw [show (n / 65536 % 256).toNat = n.toNat / 65536 % 256 by omega]; rfl⟩
  · rw [show (2 : Int) ^ (40 - 8 * 4) = 256 by decide]
    exact ⟨and_255 _ (by omega) (by omega), by rw [show (n / 256 % 256).toNat = n.toNat / 256 % 256 by omega]; rfl⟩
  · rw [show (2 : Int) ^ (40 - 8 * 5) = 1 by decide]
    exact ⟨and_255 _ (by omega) (by omega), by rw [show (n / 1 % 256).toNat = n.toNat % 256 by omega]; rfl⟩
theorem push_part {L : List (List UInt8)} {k : Nat} {p : List UInt8} (h : L[k]? = some p) : strs (L.take (k + 1)) = strs (L.take k) ++ [.string ⟨p.toArray⟩] := by
  obtain ⟨hk, e⟩ := List.getElem?_eq_some_iff.1 h
  rw [List.take_succ_eq_append_getElem hk, strs_append, e]; rfl
theorem mac2_int (k : Int) (h0 : 0 ≤ k) : Adr.mac2 k.toNat = [Adr.hexd (k / 16).toNat, Adr.hexd (k % 16).toNat] := by
  unfold Adr.mac2
  rw [show (k / 16).toNat = k.toNat / 16 by omega, show (k % 16).toNat = k.toNat % 16 by omega]
set_option maxHeartbeats 2000000 in
set_option maxRecDepth 100000 in
theorem macText_any (n : Int) (w : World) (h0 : 0 ≤ n) (h : n < 281474976710656) :
    Calls Tryd.prog 26 #[.int .i64 n] w fun e w' => e = .returned (.tuple #[.string ⟨(Adr.macText n.toNat).toArray⟩, .bool true]) ∧ Below w.heap.size w w' := by
  obtain ⟨i0, hi, hz0, hz1, hz2⟩ := info_parts info_string
  go_enter Tryd.func26, Tryd.ntmps26
  go_wp2_with fail
  go_loopw [4, 5, 6] (fun v i _ wr => ∃ k : Nat, k ≤ 6 ∧ i = .int .i64 (40 - 8 * k) ∧ wr.ownsRow w.heap.size 9 1 v k (strs ((macParts n.toNat).take k)) ∧ Below w.heap.size w wr) (fun _ i _ _ => (intOf i + 8).toNat)
  case atStart => exact ⟨0, by omega, rfl, World.ownsRow_nil _ _ _ _, Below.refl _ _⟩
  case round =>
    obtain ⟨k, hk, rfl, hown, hb⟩ := hrel
    by_cases h6 : k < 6
    · obtain ⟨sh, hsh⟩ : ∃ sh, sh = 40 - 8 * (k : Int) := ⟨_, rfl⟩
      rw [← hsh]
      have hs1 : 0 ≤ sh := by omega
      have hs2 : sh ≤ 40 := by omega
      have Hsh := Lib.hid hsh
      obtain ⟨ha, hp⟩ := macPart_at n k sh hsh h6 h0 h
      have hk1a : 0 ≤ n / 2 ^ sh.toNat % 256 := by omega
      have hk1b : n / 2 ^ sh.toNat % 256 < 256 := by omega
      generalize hk1 : n / 2 ^ sh.toNat % 256 = k1 at *
      have Hp := Lib.hid hp
      clear hsh hp hk1
      have hi1 := index_hex (k1 / 16) (by omega) (by omega)
      have hj1 := index_hex (k1 % 16) (by omega) (by omega)
      have hf1 := and_15 k1 (by omega) (by omega)
      have hcv := conv_two_drew wr (Adr.hexd (k1 / 16).toNat) (Adr.hexd (k1 % 16).toNat)
      go_wp2_with fail
      go_region_law (refine step_app (by rfl) _ _ 54 (by rfl) w 9 i0 _ 1 16 Tryd.underlying54 hi hz0 hz1 hz2 rfl (by decide) (by decide) (((hown.alloc _).alloc _).drew) (((hb.alloc hb.size _).alloc (Nat.le_trans hb.size (by simp)) _).drew) (by rfl) ⟨wr.heap.size + 1, 0, none⟩ 1 1 [.string ⟨#[Adr.hexd (k1 / 16).toNat, Adr.hexd (k1 % 16).toNat]⟩] (by rfl) (by rfl) (news_one _ _ _ _ (by simp)) (by simp; rfl) (by omega) ?_; intro v2 x2 hown2 hc2)
      all_goals
        go_wp2_with fail
        go_roundw
        case rel =>
          refine ⟨k + 1, by omega, ?_, ?_, hc2⟩
          · rw [Hsh.out]; go_num
          · have e := push_part Hp.out
            rw [mac2_int k1 hk1a] at e
            rw [e]; exact hown2
        case measure => simp [intOf]; omega
    · have hk6 : 6 ≤ k := by omega
      have e6 : k = (macParts n.toNat).length := by show k = 6; omega
      have hfree : ∀ p ∈ macParts n.toNat, p.length ≤ 2 := by
        intro p hp
        unfold macParts at hp
        simp only [List.mem_cons, List.not_mem_nil, or_false] at hp
        rcases hp with rfl | rfl | rfl | rfl | rfl | rfl <;> exact Nat.le_refl 2
      have Hlen := Lib.hid (glue_len 58 (macParts n.toNat) 2 hfree)
      have E6 := Lib.hid e6
      clear h6 e6 hfree
      obtain ⟨A, cap, rfl, hcap, _, hrd⟩ := rd_own hown
      have hsp := Lib.hid (rd_own_spot hown)
      have Hrd := Lib.hid (show Rd wr 1 A (macParts n.toNat).length (strs (macParts n.toNat)) by
        rw [E6.out, List.take_length] at hrd; exact hrd)
      have HJ := Lib.hid (show Calls Tryd.prog 49 #[.slice A k cap, .string ⟨#[58]⟩] wr fun e w' => e = .returned (.string ⟨(Adr.glue 58 (macParts n.toNat)).toArray⟩) ∧ Below wr.heap.size wr w' by
        have := join_any A cap (macParts n.toNat) 58 wr (by rw [← E6.out]; exact hcap) Hrd.out hsp.out (Nat.le_trans Hlen.out (by show 6 * 3 ≤ _; decide)) (by show 6 ≤ _; decide)
        rw [← E6.out] at this; exact this)
      clear hown hrd
      go_wp2_with fail
      refine HJ.out.mono ?_
      rintro e w5 ⟨rfl, hb5⟩
      go_wp2_with fail
      go_ret2
      exact ⟨rfl, below_step hb hb5⟩
theorem macText_no (n : Int) (w : World) (h : n < 0 ∨ 281474976710656 ≤ n) :
    Calls Tryd.prog 26 #[.int .i64 n] w fun e w' => e = .returned (.tuple #[.string ⟨#[]⟩, .bool false]) ∧ w = w' := by
  rcases h with h | h
  all_goals
    go_enter Tryd.func26, Tryd.ntmps26
    go_wp2_with fail
    go_ret2
    exact ⟨rfl, rfl⟩
theorem ipText_no (n : Int) (w : World) (h : n < 0 ∨ 4294967296 ≤ n) :
    Calls Tryd.prog 45 #[.int .i64 n] w fun e w' => e = .returned (.tuple #[.string ⟨#[]⟩, .bool false]) ∧ w = w' := by
  rcases h with h | h
  all_goals
    go_enter Tryd.func45, Tryd.ntmps45
    go_wp2_with fail
    go_ret2
    exact ⟨rfl, rfl⟩
end Go.Proofs.YtlojeeakjgalpaaDoor
