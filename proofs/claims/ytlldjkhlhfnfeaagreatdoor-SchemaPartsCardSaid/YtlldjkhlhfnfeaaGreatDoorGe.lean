/- strconv.ParseUint at base 16 and 48 bits, over any program that holds its text: what Adr.parseMac says; of what was there nothing turns. The library's Split, Cut, ReplaceAll, Join, ParseUint in this seed's words. Walks: an address of a text: the program's and the reference's. Walks: a prefix of a text: the program's and the reference's; the reference's In. -/
import Derived.Shelf.Pu.Lays
import Derived.Shelf.Pu.Lower
import Derived.Shelf.Pu.ParseUintEmpty
import Derived.Shelf.Pu.ToError
import Derived.Shelf.Pu.ToErrorRange
import Derived.Lib.Strings
import Derived.Lib.Walk
import Derived.Lib.ConvBytes
import Derived.Lib.AtoiErrMem
import Derived.Lib.AtoiAllMem
import Derived.Lib.ParseIntBMem
import Derived.Lib.Hide
import Derived.Laws.Strings3
import Derived.Laws.Closers25
import Derived.Laws.Closers25b
import Derived.WalkKit
import Derived.BigCall
import Derived.BigGuard
import Derived.Deep.RegionHeld3
import Derived.Test.YtlldjkhlhfnfeaaGreatDoorGa
import Derived.Test.YtlldjkhlhfnfeaaGreatDoorGb
import Derived.Test.YtlldjkhlhfnfeaaGreatDoorGc
namespace Adr
open Go
theorem or_all : ∀ k : Fin 256, bits .or .u8 ((k.val : Nat) : Int) 32 = (((UInt8.ofNat k.val ||| 32).toNat : Nat) : Int) := by decide +kernel
theorem or_byte (c : UInt8) : bits .or .u8 (c.toNat : Int) 32 = ((c ||| 32).toNat : Int) := by
  have := or_all ⟨c.toNat, c.toNat_lt⟩
  simpa using this
end Adr
namespace Go.Proofs.YtlldjkhlhfnfeaaGreatDoor
open Go.Shelf Go.RowKit
variable {P : Program} {ρ : Ren}

/-- What the inner ParseUint hands back. -/
def inner (T : TypeId) : Option (Option Nat) → Value
  | some (some u) => .tuple #[.int .u64 (u : Int), .nilIface]
  | some none => .tuple #[.int .u64 281474976710655, .iface T (.int .i64 1)]
  | none => .tuple #[.int .u64 0, .iface T (.int .i64 2)]
theorem lower_is (L : LaysPu.n19 P ρ) (x m : Int) (h : bits .or .u8 x 32 = m) (w : World) :
    Calls P (ρ.f 19) #[.int .u8 x] w fun e w' => e = .returned (.int .u8 m) ∧ w' = w := by
  subst h
  exact AnyPu.internal_strconv_lower L x w

set_option maxHeartbeats 32000000 in
set_option maxRecDepth 100000 in
theorem inner16 (L : LaysPu.n16 P ρ) (t : ByteArray) (hne : t.size ≠ 0) (hmax : t.size ≤ 9223372036854775806) (w : World) :
    Calls P (ρ.f 16) #[.string t, .int .i64 16, .int .i64 48] w fun e w' => e = .returned (inner (ρ.t 34) (Adr.parse16 0 t.data.toList)) ∧ w' = Lib.bytesWorld w (ρ.t 5) t := by
  have mixed := L.mixed
  have t9 := L.t9; have a9 := L.a9; have z9 := L.z9; have v9 := L.v9
  have t3 := L.t3; have a3 := L.a3; have z3 := L.z3; have v3 := L.v3
  have t22 := L.t22; have a22 := L.a22; have z22 := L.z22; have v22 := L.v22
  have t24 := L.t24; have a24 := L.a24; have z24 := L.z24; have v24 := L.v24
  have t4 := L.t4; have a4 := L.a4; have z4 := L.z4; have v4 := L.v4
  have t34 := L.t34; have a34 := L.a34; have z34 := L.z34; have v34 := L.v34
  have t5 := L.t5; have a5 := L.a5; have z5 := L.z5; have v5 := L.v5
  have t36 := L.t36; have a36 := L.a36; have z36 := L.z36; have v36 := L.v36
  have t37 := L.t37; have a37 := L.a37; have z37 := L.z37; have v37 := L.v37
  have t0 := L.t0; have a0 := L.a0; have z0 := L.z0; have v0 := L.v0
  have e19 : ∀ args w, (callFunc (ρ.f 19) args).run P w = .ok (.enter (ρ.f 19) args) w := enters_of L.f19 (by kernel_rfl) rfl
  have hemp : t.toList.isEmpty = false := by
    rw [← decide_eq_emptyBytes]
    exact decide_eq_false (fun h => hne (by rw [h]; rfl))
  have hcv := Lib.run_convert_string_bytes (P := P) w (ρ.t 9) (ρ.t 37) (ρ.t 5) t (u := .string) L.t9 L.t37 L.t5
  have hB : ∀ j, j < t.size → (Lib.bytesWorld w (ρ.t 5) t).cell? ⟨w.heap.size, j, none⟩ = some (.int .u8 (t.data.toList.getD j 0).toNat) := fun j hj => Lib.bytesWorld_cell w (ρ.t 5) t j hj
  obtain ⟨W1, hW1⟩ : ∃ W1, W1 = Lib.bytesWorld w (ρ.t 5) t := ⟨_, rfl⟩
  rw [← hW1] at hcv hB ⊢
  clear hW1
  obtain ⟨bs, hL⟩ : ∃ bs, bs = t.data.toList := ⟨_, rfl⟩
  have hLn : bs.length = t.size := by rw [hL, Lib.size_eq]
  rw [← hL] at hB ⊢
  clear hL
  have hmv : IntKind.u64.wrap (IntKind.u64.wrap 281474976710656 - 1) = 281474976710655 := by
    rw [IntKind.wrap_u64, IntKind.wrap_u64]
    decide
  go_enter L.f16, BodyPu.n16_ntmps ρ
  go_wp2
  go_loop [12, 13, 101] (fun vu vn vi => ∃ (k acc : Nat) (a : Int), vu = .bool false ∧ vn = .int .u64 a ∧ vi = .int .i64 k ∧ k ≤ t.size ∧ Hid (a = (acc : Int) ∧ acc ≤ 281474976710655 ∧ Adr.parse16 0 bs = Adr.parse16 acc (bs.drop k)))
    (fun _ _ vi => t.size - (intOf vi).toNat)
  case atStart => exact ⟨0, 0, 0, rfl, rfl, rfl, by omega, rfl, by omega, rfl⟩
  case round =>
    obtain ⟨k, acc, a, rfl, rfl, rfl, hk, hh⟩ := hrel
    obtain ⟨ha, hacc, hdec⟩ := hh.out
    clear hh
    have a0 : 0 ≤ a := by omega
    have a1 : a ≤ 281474976710655 := by omega
    by_cases hkn : k < t.size
    · have hc := hB k hkn
      have hdrop : bs.drop k = bs[k]'(by omega) :: bs.drop (k + 1) := List.drop_eq_getElem_cons (by omega)
      have hget : bs.getD k 0 = bs[k]'(by omega) := by simp [List.getD, List.getElem?_eq_getElem (show k < bs.length by omega)]
      rw [hdrop] at hdec
      rw [hget] at hc
      generalize bs[k]'(by omega) = c at hc hdec
      have hc256 : c.toNat < 256 := c.toNat_lt
      clear hB hdrop hget
      by_cases hdig : 48 ≤ c.toNat ∧ c.toNat ≤ 57
      · obtain ⟨hd0, hd1⟩ := hdig
        have hd : Adr.dig36 c = c.toNat - 48 := by unfold Adr.dig36; rw [if_pos ⟨hd0, hd1⟩]
        have hF : Adr.parse16 acc (c :: bs.drop (k + 1)) = if 281474976710656 ≤ acc * 16 + (c.toNat - 48) then some none else Adr.parse16 (acc * 16 + (c.toNat - 48)) (bs.drop (k + 1)) := by
          rw [Adr.parse16, hd, if_neg (by omega)]
        rw [hF] at hdec
        clear hd hF
        by_cases hov : 281474976710656 ≤ acc * 16 + (c.toNat - 48)
        · rw [if_pos hov] at hdec
          have iov : 281474976710655 < a * 16 + ((c.toNat : Int) - 48) := by omega
          clear hacc hov ha
          go_wp2
          go_ret2
          exact ⟨rfl, rfl⟩
        · rw [if_neg hov] at hdec
          have HN : Hid (a * 16 + ((c.toNat : Int) - 48) = ((acc * 16 + (c.toNat - 48) : Nat) : Int) ∧ acc * 16 + (c.toNat - 48) ≤ 281474976710655 ∧ Adr.parse16 0 bs = Adr.parse16 (acc * 16 + (c.toNat - 48)) (bs.drop (k + 1))) := Lib.hid ⟨by omega, by omega, hdec⟩
          have iov : a * 16 + ((c.toNat : Int) - 48) ≤ 281474976710655 := by omega
          clear hacc hov hdec ha
          go_wp2
          refine ⟨⟨k + 1, acc * 16 + (c.toNat - 48), a * 16 + ((c.toNat : Int) - 48), rfl, (by first | rfl | (congr 1; omega)), (by first | rfl | (congr 1; omega)), by omega, HN⟩, by simp [intOf]; omega⟩
      · have Hlo := Lib.hid (Adr.or_byte c)
        by_cases h95 : c.toNat = 95
        · obtain rfl : c = 95 := UInt8.toNat_inj.1 (by rw [h95]; rfl)
          have hF : Adr.parse16 acc (95 :: bs.drop (k + 1)) = none := by rw [Adr.parse16, if_pos (by decide)]
          rw [hF] at hdec
          clear hacc hF ha Hlo h95 hdig hc256
          have Hu := Lib.hid (show bits .or .u8 95 32 = 127 by decide +kernel)
          go_wp2_with (go_at_fn (ρ.f 19); refine (lower_is { L with } _ 127 Hu.out _).mono ?_; rintro e w' ⟨rfl, rfl⟩)
          all_goals go_ret2
          all_goals first | exact ⟨rfl, rfl⟩ | exact ⟨by rw [hdec]; rfl, rfl⟩
        · have hn95 : ((c.toNat : Int) == 95) = false := by rw [beq_eq_false_iff_ne]; omega
          have hcase : c.toNat < 48 ∨ 57 < c.toNat := by omega
          by_cases hlet : 97 ≤ (c ||| 32).toNat ∧ (c ||| 32).toNat ≤ 122
          · have hd : Adr.dig36 c = (c ||| 32).toNat - 97 + 10 := by unfold Adr.dig36; rw [if_neg hdig, if_pos hlet]
            rw [Adr.parse16, hd] at hdec
            clear hd hdig h95
            generalize (c ||| 32).toNat = lo at Hlo hdec hlet
            obtain ⟨hl0, hl1⟩ := hlet
            by_cases h16 : 16 ≤ lo - 97 + 10
            · rw [if_pos h16] at hdec
              have i16 : 102 < lo := by omega
              clear h16 hacc ha
              rcases hcase with hcase | hcase
              all_goals
                go_wp2_with (go_at_fn (ρ.f 19); refine (lower_is { L with } _ (lo : Int) Hlo.out _).mono ?_; rintro e w' ⟨rfl, rfl⟩)
                all_goals go_ret2
                all_goals first | exact ⟨rfl, rfl⟩ | exact ⟨by rw [hdec]; rfl, rfl⟩
            · rw [if_neg h16] at hdec
              have i16 : lo ≤ 102 := by omega
              clear h16
              by_cases hov : 281474976710656 ≤ acc * 16 + (lo - 97 + 10)
              · rw [if_pos hov] at hdec
                have iov : 281474976710655 < a * 16 + ((lo : Int) - 97 + 10) := by omega
                clear hacc hov ha
                rcases hcase with hcase | hcase
                all_goals
                  go_wp2_with (go_at_fn (ρ.f 19); refine (lower_is { L with } _ (lo : Int) Hlo.out _).mono ?_; rintro e w' ⟨rfl, rfl⟩)
                  all_goals go_ret2
                  all_goals first | exact ⟨rfl, rfl⟩ | exact ⟨by rw [hdec]; rfl, rfl⟩
              · rw [if_neg hov] at hdec
                have HN : Hid (a * 16 + ((lo : Int) - 97 + 10) = ((acc * 16 + (lo - 97 + 10) : Nat) : Int) ∧ acc * 16 + (lo - 97 + 10) ≤ 281474976710655 ∧ Adr.parse16 0 bs = Adr.parse16 (acc * 16 + (lo - 97 + 10)) (bs.drop (k + 1))) := Lib.hid ⟨by omega, by omega, hdec⟩
                have iov : a * 16 + ((lo : Int) - 97 + 10) ≤ 281474976710655 := by omega
                clear hacc hov hdec ha
                rcases hcase with hcase | hcase
                all_goals
                  go_wp2_with (go_at_fn (ρ.f 19); refine (lower_is { L with } _ (lo : Int) Hlo.out _).mono ?_; rintro e w' ⟨rfl, rfl⟩)
                  refine ⟨⟨k + 1, acc * 16 + (lo - 97 + 10), a * 16 + ((lo : Int) - 97 + 10), rfl, (by first | rfl | (congr 1; omega)), (by first | rfl | (congr 1; omega)), by omega, HN⟩, by simp [intOf]; omega⟩
          · have hd : Adr.dig36 c = 255 := by unfold Adr.dig36; rw [if_neg hdig, if_neg hlet]
            rw [Adr.parse16, hd, if_pos (by decide)] at hdec
            clear hd hdig h95 hacc ha
            generalize (c ||| 32).toNat = lo at Hlo hlet
            have hl2 : lo < 97 ∨ 122 < lo := by omega
            clear hlet
            rcases hcase with hcase | hcase <;> rcases hl2 with hl2 | hl2
            all_goals
              go_wp2_with (go_at_fn (ρ.f 19); refine (lower_is { L with } _ (lo : Int) Hlo.out _).mono ?_; rintro e w' ⟨rfl, rfl⟩)
              all_goals go_ret2
              all_goals first | exact ⟨rfl, rfl⟩ | exact ⟨by rw [hdec]; rfl, rfl⟩
    · have hkk : k = t.size := by omega
      subst hkk
      have hF : Adr.parse16 acc (bs.drop t.size) = some (some acc) := by rw [List.drop_eq_nil_of_le (by omega)]; rfl
      rw [hF] at hdec
      subst ha
      clear hacc hF a0 a1
      go_wp2
      go_ret2
      exact ⟨rfl, rfl⟩

theorem inner16_all (L : LaysPu.n16 P ρ) (t : ByteArray) (hmax : t.size ≤ 9223372036854775806) (w : World) :
    Calls P (ρ.f 16) #[.string t, .int .i64 16, .int .i64 48] w fun e w' => e = .returned (inner (ρ.t 34) (Adr.parseMac t.data.toList)) ∧ (w' = w ∨ w' = Lib.bytesWorld w (ρ.t 5) t) := by
  by_cases h0 : t.size = 0
  · have ht : t = ⟨#[]⟩ := by
      apply ByteArray.ext
      exact Array.eq_empty_of_size_eq_zero h0
    subst ht
    exact (AnyPu.internal_strconv_ParseUint_empty { L with } 16 48 w).mono fun e w' ⟨he, hw⟩ => ⟨he, Or.inl hw⟩
  · have hne : t.data.toList ≠ [] := fun h => h0 (by rw [Lib.size_eq, h]; rfl)
    refine (inner16 { L with } t h0 hmax w).mono fun e w' ⟨he, hw⟩ => ⟨?_, Or.inr hw⟩
    rw [he, Adr.parseMac, if_neg hne]

/-- What strconv.ParseUint(s, 16, 48) hands back. -/
def Parsed (T : TypeId) (r : Option (Option Nat)) (e : Ending) : Prop :=
  match r with
  | some (some u) => e = .returned (.tuple #[.int .u64 (u : Int), .nilIface])
  | none => ∃ p, e = .returned (.tuple #[.int .u64 0, .iface T p])
  | some none => ∃ p, e = .returned (.tuple #[.int .u64 281474976710655, .iface T p])

set_option maxHeartbeats 4000000 in
set_option maxRecDepth 100000 in
theorem parse16_any (L : LaysPu.n14 P ρ) (s : ByteArray) (hlim : s.size ≤ 281474976710656) (t1 t2 : TypeId) (p1 p2 : Value) (w : World)
    (hv0 : w.cell? ⟨(ρ.g 0), 0, none⟩ = some (.iface t1 p1)) (hv1 : w.cell? ⟨(ρ.g 1), 0, none⟩ = some (.iface t2 p2)) :
    Calls P (ρ.f 14) #[.string s, .int .i64 16, .int .i64 48] w fun e w' => Parsed (ρ.t 39) (Adr.parseMac s.data.toList) e ∧ Below w.heap.size w w' := by
  have mixed := L.mixed
  have t9 := L.t9; have a9 := L.a9; have z9 := L.z9; have v9 := L.v9
  have t3 := L.t3; have a3 := L.a3; have z3 := L.z3; have v3 := L.v3
  have t22 := L.t22; have a22 := L.a22; have z22 := L.z22; have v22 := L.v22
  have t24 := L.t24; have a24 := L.a24; have z24 := L.z24; have v24 := L.v24
  have t25 := L.t25; have a25 := L.a25; have z25 := L.z25; have v25 := L.v25
  have t4 := L.t4; have a4 := L.a4; have z4 := L.z4; have v4 := L.v4
  have e16 : ∀ args w, (callFunc (ρ.f 16) args).run P w = .ok (.enter (ρ.f 16) args) w := enters_of L.f16 (by kernel_rfl) rfl
  have e17 : ∀ args w, (callFunc (ρ.f 17) args).run P w = .ok (.enter (ρ.f 17) args) w := enters_of L.f17 (by kernel_rfl) rfl
  have hG0 : (ρ.g 0) < w.heap.size := Lib.lt_of_cell hv0
  have hG1 : (ρ.g 1) < w.heap.size := Lib.lt_of_cell hv1
  have hI := inner16_all { L with } s (by omega) w
  rcases h : Adr.parseMac s.data.toList with _ | (_ | u)
  rotate_left 2
  ·
    rw [h] at hI
    have hI : Calls P (ρ.f 16) #[.string s, .int .i64 16, .int .i64 48] w fun e w' => e = .returned (.tuple #[.int .u64 u, .nilIface]) ∧ (w' = w ∨ w' = Lib.bytesWorld w (ρ.t 5) s) := hI
    clear h hv0 hv1
    go_enter L.f14, BodyPu.n14_ntmps ρ
    go_wp2_with (go_at_fn (ρ.f 16); refine hI.mono ?_; rintro e W1 ⟨rfl, hW⟩)
    go_wp2
    go_ret2
    refine ⟨rfl, ?_⟩
    rcases hW with rfl | rfl
    · exact Below.refl _ _
    · exact Lib.bytesWorld_below _ _ _
  ·
    rw [h] at hI
    have hI : Calls P (ρ.f 16) #[.string s, .int .i64 16, .int .i64 48] w fun e w' => e = .returned (.tuple #[.int .u64 0, .iface (ρ.t 34) (.int .i64 2)]) ∧ (w' = w ∨ w' = Lib.bytesWorld w (ρ.t 5) s) := hI
    clear h
    go_enter L.f14, BodyPu.n14_ntmps ρ
    go_wp2_with (go_at_fn (ρ.f 16); refine hI.mono ?_)
    rintro e W1 ⟨rfl, hW⟩
    have hb1 : Below w.heap.size w W1 := by
      rcases hW with rfl | rfl
      · exact Below.refl _ _
      · exact Lib.bytesWorld_below _ _ _
    have hw1 : W1.cell? ⟨(ρ.g 0), 0, none⟩ = some (.iface t1 p1) := (hb1.cell (show (⟨(ρ.g 0), 0, none⟩ : Addr).block < w.heap.size from hG0)).trans hv0
    clear hW hv0 hv1
    go_wp2_with (go_at_fn (ρ.f 17); refine (AnyPu.strconv_toError_syntax { L with } ⟨#[80, 97, 114, 115, 101, 85, 105, 110, 116]⟩ s 16 48 (.iface t1 p1) _ hlim ?_ (Or.inr ⟨t1, p1, rfl⟩)).mono ?_)
    · exact hw1
    rintro e W2 ⟨N, rfl, h1, h2, h3⟩
    go_wp2
    go_ret2
    exact ⟨⟨_, rfl⟩, hb1.trans (h3.mono hb1.size)⟩
  ·
    rw [h] at hI
    have hI : Calls P (ρ.f 16) #[.string s, .int .i64 16, .int .i64 48] w fun e w' => e = .returned (.tuple #[.int .u64 281474976710655, .iface (ρ.t 34) (.int .i64 1)]) ∧ (w' = w ∨ w' = Lib.bytesWorld w (ρ.t 5) s) := hI
    clear h
    go_enter L.f14, BodyPu.n14_ntmps ρ
    go_wp2_with (go_at_fn (ρ.f 16); refine hI.mono ?_)
    rintro e W1 ⟨rfl, hW⟩
    have hb1 : Below w.heap.size w W1 := by
      rcases hW with rfl | rfl
      · exact Below.refl _ _
      · exact Lib.bytesWorld_below _ _ _
    have hw1 : W1.cell? ⟨(ρ.g 1), 0, none⟩ = some (.iface t2 p2) := (hb1.cell (show (⟨(ρ.g 1), 0, none⟩ : Addr).block < w.heap.size from hG1)).trans hv1
    clear hW hv0 hv1
    go_wp2_with (go_at_fn (ρ.f 17); refine (AnyPu.strconv_toError_range { L with } ⟨#[80, 97, 114, 115, 101, 85, 105, 110, 116]⟩ s 16 48 (.iface t2 p2) _ hlim ?_ (Or.inr ⟨t2, p2, rfl⟩)).mono ?_)
    · exact hw1
    rintro e W2 ⟨N, rfl, h1, h2, h3⟩
    go_wp2
    go_ret2
    exact ⟨⟨_, rfl⟩, hb1.trans (h3.mono hb1.size)⟩
end Go.Proofs.YtlldjkhlhfnfeaaGreatDoor

namespace Adr
open Go Go.Lib
theorem splitB_parts (c : UInt8) (s : ByteArray) : (splitB ⟨#[c]⟩ 0 (countB s ⟨#[c]⟩) s).map (·.data.toList) = parts c s.data.toList := by
  rw [splitB_data, ← split_parts]; rfl
theorem countB_parts (c : UInt8) (s : ByteArray) : countB s ⟨#[c]⟩ + 1 = (parts c s.data.toList).length := by
  rw [← splitB_parts, List.length_map, splitB_all ⟨#[c]⟩ (Nat.le_refl 1) 0 _ s rfl]
end Adr
namespace Go.Proofs.YtlldjkhlhfnfeaaGreatDoor
open Go.RowKit

theorem split_any (s : ByteArray) (c : UInt8) (w : World) (hE : Env w) (hs : s.size ≤ 100000000) :
    Calls Tryz.prog 76 #[.string s, .string ⟨#[c]⟩] w (PartsEnd w c s.data.toList) := by
  obtain ⟨m, hm⟩ := hE.mx
  refine (Tryz.strings_Split s ⟨#[c]⟩ m w (by omega) hm (Nat.le_refl 1)).mono fun e w' ⟨he, hw⟩ => ?_
  have hl := Adr.parts_len c s.data.toList
  rw [size_data] at hl
  rw [strs_of, Adr.splitB_parts] at hw
  have hc := Adr.countB_parts c s
  refine ⟨some ⟨w.heap.size, 0, none⟩, (Adr.parts c s.data.toList).length, by rw [he, hc], Nat.le_refl _, by unfold maxLen; omega, ⟨by rw [strs_length]; omega, fun _ => ⟨_, rfl, by rw [hw]; simp, fun j u hu => ?_⟩⟩, by rw [hw]; exact (Below.refl _ _).alloc (Nat.le_refl _) _⟩
  rw [hw, add_plain, Nat.zero_add, World.cell?_alloc_at _ _ _ _ rfl]
  simpa using hu

theorem cut_hit (s : ByteArray) (c : UInt8) (a r : List UInt8) (w : World) (hE : Env w) (hs : s.size ≤ 100000000) (h : s.data.toList = a ++ c :: r) (ha : c ∉ a) :
    Calls Tryz.prog 91 #[.string s, .string ⟨#[c]⟩] w fun e w' => e = .returned (.tuple #[.string ⟨a.toArray⟩, .string ⟨r.toArray⟩, .bool true]) ∧ Below w.heap.size w w' := by
  obtain ⟨m, hm⟩ := hE.mx
  refine (Tryz.strings_Cut s ⟨#[c]⟩ m w (by omega) hm).mono fun e w' ⟨he, n, hw⟩ => ?_
  have e1 : Lib.cut s.data.toList (⟨#[c]⟩ : ByteArray).data.toList = (a, r, true) := by rw [h]; exact Adr.cut_at c a r ha
  rw [e1] at he
  exact ⟨he, by rw [hw]; exact below_drews n⟩
theorem cut_no (s : ByteArray) (c : UInt8) (w : World) (hE : Env w) (hs : s.size ≤ 100000000) (h : c ∉ s.data.toList) :
    Calls Tryz.prog 91 #[.string s, .string ⟨#[c]⟩] w fun e w' => e = .returned (.tuple #[.string s, .string ⟨#[]⟩, .bool false]) ∧ Below w.heap.size w w' := by
  obtain ⟨m, hm⟩ := hE.mx
  refine (Tryz.strings_Cut s ⟨#[c]⟩ m w (by omega) hm).mono fun e w' ⟨he, n, hw⟩ => ?_
  have e1 : Lib.cut s.data.toList (⟨#[c]⟩ : ByteArray).data.toList = (s.data.toList, [], false) := Adr.cut_miss c _ h
  rw [e1, Lib.mk_data] at he
  exact ⟨he, by rw [hw]; exact below_drews n⟩
theorem strip_any (s : ByteArray) (c : UInt8) (w : World) (hE : Env w) (hs : s.size ≤ 100000000) :
    Calls Tryz.prog 105 #[.string s, .string ⟨#[c]⟩, .string ⟨#[]⟩] w fun e w' => e = .returned (.string ⟨(Lib.replaceAll s.data.toList [c] []).toArray⟩) ∧ Below w.heap.size w w' := by
  obtain ⟨m, hm⟩ := hE.mx
  exact Tryz.strings_ReplaceAll s ⟨#[c]⟩ ⟨#[]⟩ m w (by omega) hm (Nat.le_refl 1) (by show s.size + _ * 0 ≤ _; omega)
theorem strip_len (l : List UInt8) (c : UInt8) : (Lib.replaceAll l [c] []).length ≤ l.length := by
  rw [Adr.replace_filter]; exact List.length_filter_le _ _
theorem glue_len (c : UInt8) (L : List (List UInt8)) (n : Nat) (h : ∀ p ∈ L, p.length ≤ n) : (Adr.glue c L).length ≤ L.length * (n + 1) := by
  induction L with
  | nil => simp [Adr.glue]
  | cons a r ih =>
    have ha := h a (by simp)
    have hr := ih fun p hp => h p (by simp [hp])
    rw [List.length_cons, Nat.add_mul]
    cases r with
    | nil => simp [Adr.glue]; omega
    | cons b r => rw [Adr.glue_more]; simp only [List.length_append, List.length_cons] at hr ⊢; omega
theorem join_any (A : Option Addr) (cap : Nat) (L : List (List UInt8)) (c : UInt8) (w : World) (hcap : L.length ≤ cap) (h : Rd w 1 A L.length (strs L)) (hz : ∀ ad, A = some ad → ad.spot = none)
    (hlen : (Adr.glue c L).length ≤ 140737488355328) (hN : L.length ≤ 1000000000) :
    Calls Tryz.prog 113 #[.slice A L.length cap, .string ⟨#[c]⟩] w fun e w' => e = .returned (.string ⟨(Adr.glue c L).toArray⟩) ∧ Below w.heap.size w w' := by
  rcases Nat.eq_zero_or_pos L.length with h0 | h0
  · have hL : L = [] := List.length_eq_zero_iff.1 h0
    subst hL
    exact (Tryz.strings_Join_none A cap ⟨#[c]⟩ w).mono fun e w' ⟨he, hw⟩ => ⟨he, by rw [hw]; exact Below.refl _ _⟩
  · obtain ⟨⟨b, o, sp⟩, rfl, hb, hx⟩ := h.2 h0
    obtain rfl : sp = none := hz _ rfl
    have e1 : (L.map fun l => (⟨l.toArray⟩ : ByteArray)).map (·.data.toList) = L := by rw [List.map_map]; simp [Function.comp_def]
    have hj : Lib.join ((L.map fun l => (⟨l.toArray⟩ : ByteArray)).map (·.data.toList)) (⟨#[c]⟩ : ByteArray).data.toList = Adr.glue c L := by rw [e1]; exact Adr.join_glue c L
    have hl : (L.map fun l => (⟨l.toArray⟩ : ByteArray)).length = L.length := by simp
    have hcalls := Tryz.strings_Join b o cap (L.map fun l => (⟨l.toArray⟩ : ByteArray)) ⟨#[c]⟩ w (fun j x hx' => by
      have hj' : j < L.length := by rw [← hl]; exact (List.getElem?_eq_some_iff.1 hx').1
      rw [← add_plain]
      refine hx j _ ?_
      rw [strs_get hj']
      rw [List.getElem?_map, List.getElem?_eq_getElem hj'] at hx'
      simp only [Option.map_some, Option.some.injEq] at hx'
      rw [hx']) hb (by omega) (by omega) (by rw [hj]; exact hlen)
    rw [hj, hl] at hcalls
    exact hcalls
theorem rd_own_spot {w : World} {base k n : Nat} {e : TypeId} {A : Option Addr} {c : Nat} {xs : List Value} (h : w.ownsRow base e k (.slice A n c) n xs) : ∀ ad, A = some ad → ad.spot = none := by
  rintro ad rfl
  rcases h.2 with ⟨hv, _⟩ | ⟨g, cap, cur, hv, _⟩
  · cases hv
  · injection hv with hA; injection hA with hA; rw [hA]

/-- strconv.ParseUint(s, 16, 48). -/
theorem hex_any (s : ByteArray) (w : World) (hE : Env w) (hs : s.size ≤ 100000000) :
    Calls Tryz.prog 104 #[.string s, .int .i64 16, .int .i64 48] w fun e w' => Parsed 161 (Adr.parseMac s.data.toList) e ∧ Below w.heap.size w w' := by
  obtain ⟨t1, p1, h1⟩ := hE.es
  obtain ⟨t2, p2, h2⟩ := hE.er
  exact parse16_any Tryz.laysPu14 s (by omega) t1 t2 p1 p2 w h1 h2
end Go.Proofs.YtlldjkhlhfnfeaaGreatDoor

namespace Adr
open Go
def ipTo (L : List (List UInt8)) (k : Nat) : Int := (L.take k).foldl step 0
theorem ipTo_zero (L : List (List UInt8)) : ipTo L 0 = 0 := by unfold ipTo; rw [List.take_zero]; rfl
theorem ipTo_succ (L : List (List UInt8)) (k : Nat) (h : k < L.length) : ipTo L (k + 1) = step (ipTo L k) L[k] := by
  unfold ipTo
  rw [List.take_succ_eq_append_getElem h, List.foldl_append]; rfl
theorem step_neg (n : Int) (w : List UInt8) (h : n < 0) : step n w = -1 := by unfold step; rw [if_pos (.inl h)]
theorem fold_neg (L : List (List UInt8)) (n : Int) (h : n < 0) : L.foldl step n < 0 := by
  induction L generalizing n with
  | nil => exact h
  | cons a r ih => rw [List.foldl_cons]; exact ih _ (by rw [step_neg n a h]; decide)
theorem ipTo_stop (L : List (List UInt8)) (k : Nat) (h : ipTo L k < 0) : ipTo L L.length < 0 := by
  unfold ipTo at h ⊢
  rw [List.take_length]
  have e := List.take_append_drop k L
  rw [← e, List.foldl_append]
  exact fold_neg _ _ h
theorem ip_not (l : List UInt8) (h : (parts 46 l).length ≠ 4) : ip l = -1 := by
  unfold ip
  split
  · rename_i e; rw [e] at h; simp at h
  · rfl
theorem ip_to (l : List UInt8) (h : (parts 46 l).length = 4) : ip l = ipTo (parts 46 l) 4 := by
  unfold ip ipTo
  generalize parts 46 l = L at h
  match L, h with
  | [a, b, c, d], _ => rfl
theorem ipTo_bd (L : List (List UInt8)) (k : Nat) (hk : k ≤ L.length) (h4 : k ≤ 3) (h0 : 0 ≤ ipTo L k) : ipTo L k < 16777216 := by
  have s : ∀ j, j < L.length → 0 ≤ ipTo L (j + 1) → 0 ≤ ipTo L j ∧ ipTo L (j + 1) ≤ 256 * ipTo L j + 255 := by
    intro j hj h1
    rw [ipTo_succ L j hj] at h1 ⊢
    have := step_ok h1
    omega
  have h00 := ipTo_zero L
  rcases Nat.lt_or_ge 2 k with h | h
  · obtain rfl : k = 3 := by omega
    have a := s 2 (by omega) h0; have b := s 1 (by omega) a.1; have c := s 0 (by omega) b.1
    simp only [Nat.zero_add, Nat.reduceAdd] at a b c; omega
  · rcases Nat.lt_or_ge 1 k with h' | h'
    · obtain rfl : k = 2 := by omega
      have b := s 1 (by omega) h0; have c := s 0 (by omega) b.1
      simp only [Nat.zero_add, Nat.reduceAdd] at b c; omega
    · rcases Nat.lt_or_ge 0 k with h2 | h2
      · obtain rfl : k = 1 := by omega
        have c := s 0 (by omega) h0
        simp only [Nat.zero_add] at c; omega
      · obtain rfl : k = 0 := by omega
        omega
theorem step_yes {n : Int} {w : List UInt8} (h0 : 0 ≤ n) (h : numIn w 0 255 = true) : step n w = 256 * n + num w := by
  have := (numIn_iff _ _ _).1 h
  unfold step; rw [if_neg (by omega)]
theorem step_no {n : Int} {w : List UInt8} (h : numIn w 0 255 = false) : step n w = -1 := by
  unfold step; rw [if_pos]
  rw [Bool.eq_false_iff] at h
  have h2 : ¬ (0 ≤ num w ∧ 0 ≤ num w ∧ num w ≤ 255) := fun a => h ((numIn_iff w 0 255).2 a)
  omega
theorem or_add (a b : Int) (ha : 0 ≤ a) (ha2 : a < 16777216) (hb : 0 ≤ b) (hb2 : b ≤ 255) : bits .or .i64 (a * 256) b = 256 * a + b := by
  obtain ⟨x, rfl⟩ := Int.eq_ofNat_of_zero_le ha
  obtain ⟨y, rfl⟩ := Int.eq_ofNat_of_zero_le hb
  have e : ((x : Int) * 256) = ((256 * x : Nat) : Int) := by omega
  have hle : 256 * x ||| y = 256 * x + y := by
    have := Nat.two_pow_add_eq_or_of_lt (i := 8) (b := y) (by omega) x
    rw [show (2 : Nat) ^ 8 = 256 by decide] at this
    exact this.symm
  rw [e]
  show IntKind.i64.wrap ((BitVec.ofInt 64 ((256 * x : Nat) : Int) ||| BitVec.ofInt 64 (y : Int)).toNat : Int) = _
  rw [BitVec.toNat_or, ofInt_i64 _ (by omega), ofInt_i64 _ (by omega), hle, wrap_nat _ (by omega)]; omega
end Adr
namespace Go.Proofs.YtlldjkhlhfnfeaaGreatDoor
open Go.RowKit

/-- A number that is there, or (0, false). -/
def okRet (n : Int) : Value := .tuple #[.int .i64 (max n 0), .bool (decide (0 ≤ n))]
theorem okRet_yes {n : Int} (h : 0 ≤ n) : okRet n = .tuple #[.int .i64 n, .bool true] := by
  unfold okRet; rw [show max n 0 = n by omega]; simp [h]
theorem okRet_no {n : Int} (h : n < 0) : okRet n = .tuple #[.int .i64 0, .bool false] := by
  unfold okRet; rw [show max n 0 = 0 by omega]; simp; omega

set_option maxHeartbeats 1000000 in
set_option maxRecDepth 100000 in
theorem ip_any (s : ByteArray) (w : World) (hE : Env w) (hs : s.size ≤ 100000000) :
    Calls Tryz.prog 71 #[.string s] w fun e w' => e = .returned (okRet (Adr.ip s.data.toList)) ∧ Below w.heap.size w w' := by
  go_enter Tryz.func71, Tryz.ntmps71
  go_wp2_with fail
  refine (split_any s 46 _ hE hs).mono ?_
  rintro e w1 ⟨A, cap, rfl, hc1, hc2, hR, hb1⟩
  have hpl := Adr.parts_len 46 s.data.toList
  have hps := Adr.parts_short 46 s.data.toList
  rw [size_data] at hpl hps
  by_cases h4 : (Adr.parts 46 s.data.toList).length = 4
  · have HI := Lib.hid (Adr.ip_to _ h4)
    generalize Adr.parts 46 s.data.toList = L at *
    have hE1 := hE.below hb1
    have H4 := Lib.hid h4
    rw [h4] at hR hc1 ⊢
    clear h4 hpl
    go_wp2_with fail
    go_loopw [5, 17] (fun o i wr => ∃ k : Nat, k ≤ 4 ∧ i = .int .i64 k ∧ o = .int .i64 (Adr.ipTo L k) ∧ 0 ≤ Adr.ipTo L k ∧ Below w1.heap.size w1 wr) (fun _ i _ => 4 - (intOf i).toNat)
    case atStart => exact ⟨0, by omega, rfl, by rw [Adr.ipTo_zero], by rw [Adr.ipTo_zero]; decide, Below.refl _ _⟩
    case round =>
      obtain ⟨k, hk, rfl, rfl, hn, hbr⟩ := hrel
      by_cases hk4 : k < 4
      · have hkL : k < L.length := by rw [H4.out]; exact hk4
        have hsuc := Adr.ipTo_succ L k hkL
        have hstop := Adr.ipTo_stop L (k + 1)
        have hbd := Adr.ipTo_bd L k (by omega) (by omega) hn
        have hget := strs_get hkL
        have hshort := hps L[k] (List.getElem_mem hkL)
        generalize L[k] = p at *
        generalize Adr.ipTo L k = n at *
        obtain ⟨ad, rfl, had, hcell⟩ := (hR.below hbr).cell hget
        clear hget
        cases hin : Adr.numIn p 0 255 with
        | true =>
          have hr := (Adr.numIn_iff _ _ _).1 hin
          have hst := Adr.step_yes hn hin
          have HR := Lib.hid (numRet_yes (s := ⟨p.toArray⟩) (by rw [data_mk]; exact hin))
          rw [hst] at hsuc
          have Hsuc := Lib.hid hsuc
          have Hor := Lib.hid (Adr.or_add n (Adr.num p) hn hbd hr.1 hr.2.2)
          clear hst hsuc hin hstop
          go_wp2_with fail
          refine (num_any ⟨p.toArray⟩ 0 255 _ (hE1.below hbr) (by rw [size_mk]; omega)).mono ?_
          rintro e w3 ⟨rfl, hb3⟩
          rw [HR.out]
          go_wp2_with fail
          go_roundw
          case rel => exact ⟨k + 1, by omega, by go_num, by rw [Hor.out, Hsuc.out], by rw [Hsuc.out]; omega, below_step hbr hb3⟩
          case measure => simp [intOf]; omega
        | false =>
          have hst := Adr.step_no (n := n) hin
          have HR := Lib.hid (numRet_no (s := ⟨p.toArray⟩) (by rw [data_mk]; exact hin))
          rw [hst] at hsuc
          have HF := Lib.hid (okRet_no (n := Adr.ip s.data.toList) (by
            have := hstop (by rw [hsuc]; decide)
            rw [HI.out, ← H4.out]; exact this))
          clear hst hsuc hin hstop
          go_wp2_with fail
          refine (num_any ⟨p.toArray⟩ 0 255 _ (hE1.below hbr) (by rw [size_mk]; omega)).mono ?_
          rintro e w3 ⟨rfl, hb3⟩
          rw [HR.out]
          go_wp2_with fail
          go_ret2
          exact ⟨by rw [HF.out]; rfl, below_step hb1 (below_step hbr hb3)⟩
      · have hk4' : 4 ≤ k := by omega
        have HF := Lib.hid (show okRet (Adr.ip s.data.toList) = .tuple #[.int .i64 (Adr.ipTo L k), .bool true] by
          obtain rfl : k = 4 := by omega
          rw [HI.out]; exact okRet_yes hn)
        clear hk4
        go_wp2_with fail
        go_ret2
        exact ⟨by rw [HF.out]; rfl, below_step hb1 hbr⟩
  · have HF := Lib.hid (okRet_no (n := Adr.ip s.data.toList) (by rw [Adr.ip_not _ h4]; decide))
    have hne : (((Adr.parts 46 s.data.toList).length : Int) == 4) = false := by rw [beq_eq_false_iff_ne]; omega
    clear h4
    go_wp2_with fail
    go_ret2
    exact ⟨by rw [HF.out]; rfl, hb1⟩

end Go.Proofs.YtlldjkhlhfnfeaaGreatDoor

namespace Adr
open Go
theorem pre_parts (l : List UInt8) (h : (parts 47 l).length ≠ 2) : pre l = (-1, 0) := by
  unfold pre
  split
  · rename_i e; rw [e] at h; simp at h
  · rfl
theorem pre_two (l a b : List UInt8) (h : parts 47 l = [a, b]) : pre l = if good (ip a) (num b) then (ip a, num b) else (-1, 0) := by
  unfold pre; rw [h]
theorem good_no {n k : Int} (h : ¬ (0 ≤ n ∧ 0 ≤ k ∧ k ≤ 32 ∧ right n k = true)) : good n k = false := by
  rw [Bool.eq_false_iff]
  unfold good
  simp only [ne_eq, Bool.and_eq_true, decide_eq_true_eq]
  rintro ⟨⟨⟨a, b⟩, c⟩, d⟩
  exact h ⟨a, b, c, d⟩
theorem first_slash (l : List UInt8) (h : (47 : UInt8) ∈ l) : ∃ a r, l = a ++ 47 :: r ∧ (47 : UInt8) ∉ a := first_at 47 l h
theorem numIn_32 {b : List UInt8} (h : numIn b 0 32 = true) : 0 ≤ num b ∧ num b ≤ 32 := by
  have := (numIn_iff _ _ _).1 h; omega
theorem not_numIn_32 {b : List UInt8} (h : numIn b 0 32 = false) : ¬ (0 ≤ num b ∧ num b ≤ 32) := by
  intro a
  have := (numIn_iff b 0 32).2 ⟨a.1, a.1, a.2⟩
  rw [h] at this; cases this
end Adr
namespace Go.Proofs.YtlldjkhlhfnfeaaGreatDoor
open Go.RowKit

/-- A prefix that is there, or (0, 0, false). -/
def preRet (p : Int × Int) : Value := .tuple #[.int .i64 (max p.1 0), .int .i64 p.2, .bool (decide (0 ≤ p.1))]
theorem preRet_yes {p : Int × Int} (h : 0 ≤ p.1) : preRet p = .tuple #[.int .i64 p.1, .int .i64 p.2, .bool true] := by
  unfold preRet; rw [show max p.1 0 = p.1 by omega]; simp [h]
theorem preRet_no : preRet (-1, 0) = .tuple #[.int .i64 0, .int .i64 0, .bool false] := by
  unfold preRet; simp; decide

set_option maxHeartbeats 1000000 in
set_option maxRecDepth 100000 in
theorem pre_any (s : ByteArray) (w : World) (hE : Env w) (hs : s.size ≤ 100000000) :
    Calls Tryz.prog 72 #[.string s] w fun e w' => e = .returned (preRet (Adr.pre s.data.toList)) ∧ Below w.heap.size w w' := by
  by_cases hc : (47 : UInt8) ∈ s.data.toList
  · obtain ⟨a, r, hl, ha⟩ := Adr.first_slash _ hc
    have hp : Adr.pre s.data.toList = if Adr.good (Adr.ip a) (Adr.num r) then (Adr.ip a, Adr.num r) else (-1, 0) := by
      rw [hl, Adr.pre_hit a r ha]; unfold Adr.preCut; simp
    have hsz := size_data s
    have hln : a.length + (r.length + 1) = s.size := by rw [← hsz, hl]; simp
    have hla : a.length ≤ 100000000 := by omega
    have hlr : r.length ≤ 100000000 := by omega
    have HL := Lib.hid hl
    clear hl hsz hln hc
    have HN := Lib.hid (show ∀ W, Env W → Calls Tryz.prog 74 #[.string ⟨r.toArray⟩, .int .i64 0, .int .i64 32] W fun e w' => e = .returned (numRet ⟨r.toArray⟩ 0 32) ∧ Below W.heap.size W w' from
      fun W hW => num_any ⟨r.toArray⟩ 0 32 W hW (by rw [size_mk]; omega))
    have HI := Lib.hid (show ∀ W, Env W → Calls Tryz.prog 71 #[.string ⟨a.toArray⟩] W fun e w' => e = .returned (okRet (Adr.ip a)) ∧ Below W.heap.size W w' from
      fun W hW => by
        have := ip_any ⟨a.toArray⟩ W hW (by rw [size_mk]; omega)
        rw [data_mk] at this; exact this)
    by_cases hip : 0 ≤ Adr.ip a
    · have HIR := Lib.hid (okRet_yes hip)
      cases hin : Adr.numIn r 0 32 with
      | true =>
        have hb := Adr.numIn_32 hin
        have HNR := Lib.hid (numRet_yes (s := ⟨r.toArray⟩) (by rw [data_mk]; exact hin))
        cases hr : Adr.right (Adr.ip a) (Adr.num r) with
        | true =>
          rw [Adr.good_right hr, if_pos rfl] at hp
          have HF := Lib.hid (show preRet (Adr.pre s.data.toList) = .tuple #[.int .i64 (Adr.ip a), .int .i64 (Adr.num r), .bool true] by rw [hp]; exact preRet_yes hip)
          have HR := Lib.hid hr
          clear hp hr hin
          go_enter Tryz.func72, Tryz.ntmps72
          go_wp2_with fail
          refine (cut_hit s 47 a r _ hE hs HL.out ha).mono ?_
          rintro e w1 ⟨rfl, hb1⟩
          go_wp2_with fail
          refine (HI.out _ (hE.below hb1)).mono ?_
          rintro e w2 ⟨rfl, hb2⟩
          rw [HIR.out]
          go_wp2_with fail
          refine (HN.out _ ((hE.below hb1).below hb2)).mono ?_
          rintro e w3 ⟨rfl, hb3⟩
          rw [HNR.out]
          go_wp2_with fail
          refine (right_any _ _ _).mono ?_
          rintro e w4 ⟨rfl, rfl⟩
          rw [HR.out]
          go_wp2_with fail
          go_ret3
          exact ⟨by rw [HF.out]; simp, below_step (below_step hb1 hb2) hb3⟩
        | false =>
          rw [Adr.good_no (by rw [hr]; simp), if_neg (by simp)] at hp
          have HF := Lib.hid (show preRet (Adr.pre s.data.toList) = .tuple #[.int .i64 0, .int .i64 0, .bool false] by rw [hp]; exact preRet_no)
          have HR := Lib.hid hr
          clear hp hr hin
          go_enter Tryz.func72, Tryz.ntmps72
          go_wp2_with fail
          refine (cut_hit s 47 a r _ hE hs HL.out ha).mono ?_
          rintro e w1 ⟨rfl, hb1⟩
          go_wp2_with fail
          refine (HI.out _ (hE.below hb1)).mono ?_
          rintro e w2 ⟨rfl, hb2⟩
          rw [HIR.out]
          go_wp2_with fail
          refine (HN.out _ ((hE.below hb1).below hb2)).mono ?_
          rintro e w3 ⟨rfl, hb3⟩
          rw [HNR.out]
          go_wp2_with fail
          refine (right_any _ _ _).mono ?_
          rintro e w4 ⟨rfl, rfl⟩
          rw [HR.out]
          go_wp2_with fail
          go_ret3
          exact ⟨by rw [HF.out]; rfl, below_step (below_step hb1 hb2) hb3⟩
      | false =>
        have hnb := Adr.not_numIn_32 hin
        rw [Adr.good_no (fun h => hnb ⟨h.2.1, h.2.2.1⟩), if_neg (by simp)] at hp
        have HNR := Lib.hid (numRet_no (s := ⟨r.toArray⟩) (by rw [data_mk]; exact hin))
        have HF := Lib.hid (show preRet (Adr.pre s.data.toList) = .tuple #[.int .i64 0, .int .i64 0, .bool false] by rw [hp]; exact preRet_no)
        clear hp hin hnb
        go_enter Tryz.func72, Tryz.ntmps72
        go_wp2_with fail
        refine (cut_hit s 47 a r _ hE hs HL.out ha).mono ?_
        rintro e w1 ⟨rfl, hb1⟩
        go_wp2_with fail
        refine (HI.out _ (hE.below hb1)).mono ?_
        rintro e w2 ⟨rfl, hb2⟩
        rw [HIR.out]
        go_wp2_with fail
        refine (HN.out _ ((hE.below hb1).below hb2)).mono ?_
        rintro e w3 ⟨rfl, hb3⟩
        rw [HNR.out]
        go_wp2_with fail
        go_ret3
        exact ⟨by rw [HF.out]; rfl, below_step (below_step hb1 hb2) hb3⟩
    · have HIR := Lib.hid (okRet_no (n := Adr.ip a) (by omega))
      rw [Adr.good_no (fun h => hip h.1), if_neg (by simp)] at hp
      have HF := Lib.hid (show preRet (Adr.pre s.data.toList) = .tuple #[.int .i64 0, .int .i64 0, .bool false] by rw [hp]; exact preRet_no)
      clear hp
      have HNR : Hid (∃ x y, numRet ⟨r.toArray⟩ 0 32 = .tuple #[.int .i64 x, .bool y]) := Lib.hid ⟨_, _, rfl⟩
      obtain ⟨x, y, hxy⟩ := HNR.out
      have HNR' := Lib.hid hxy
      clear hxy HNR hip
      go_enter Tryz.func72, Tryz.ntmps72
      go_wp2_with fail
      refine (cut_hit s 47 a r _ hE hs HL.out ha).mono ?_
      rintro e w1 ⟨rfl, hb1⟩
      go_wp2_with fail
      refine (HI.out _ (hE.below hb1)).mono ?_
      rintro e w2 ⟨rfl, hb2⟩
      rw [HIR.out]
      go_wp2_with fail
      refine (HN.out _ ((hE.below hb1).below hb2)).mono ?_
      rintro e w3 ⟨rfl, hb3⟩
      rw [HNR'.out]
      go_wp2_with fail
      go_ret3
      exact ⟨by rw [HF.out]; rfl, below_step (below_step hb1 hb2) hb3⟩
  · have HF := Lib.hid (show preRet (Adr.pre s.data.toList) = .tuple #[.int .i64 0, .int .i64 0, .bool false] by rw [Adr.pre_miss _ hc]; exact preRet_no)
    obtain ⟨x, y, hxy⟩ : ∃ x y, okRet (Adr.ip s.data.toList) = .tuple #[.int .i64 x, .bool y] := ⟨_, _, rfl⟩
    have HIR := Lib.hid hxy
    obtain ⟨x', y', hxy'⟩ : ∃ x y, numRet ⟨#[]⟩ 0 32 = .tuple #[.int .i64 x, .bool y] := ⟨_, _, rfl⟩
    have HNR := Lib.hid hxy'
    clear hxy hxy'
    have HC := Lib.hid hc
    clear hc
    go_enter Tryz.func72, Tryz.ntmps72
    go_wp2_with fail
    refine (cut_no s 47 _ hE hs HC.out).mono ?_
    rintro e w1 ⟨rfl, hb1⟩
    go_wp2_with fail
    refine (ip_any s _ (hE.below hb1) hs).mono ?_
    rintro e w2 ⟨rfl, hb2⟩
    rw [HIR.out]
    go_wp2_with fail
    refine (num_any ⟨#[]⟩ 0 32 _ ((hE.below hb1).below hb2) (by decide)).mono ?_
    rintro e w3 ⟨rfl, hb3⟩
    rw [HNR.out]
    go_wp2_with fail
    go_ret3
    exact ⟨by rw [HF.out]; rfl, below_step (below_step hb1 hb2) hb3⟩

end Go.Proofs.YtlldjkhlhfnfeaaGreatDoor
