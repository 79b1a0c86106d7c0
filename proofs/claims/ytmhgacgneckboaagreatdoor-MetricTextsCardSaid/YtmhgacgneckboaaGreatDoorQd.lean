/- strconv.ParseUint at base 16 and 48 bits, over any program that holds its text: what Adr.parseMac says; of what was there nothing turns. The library's Split, Cut, ReplaceAll, Join, ParseUint in this seed's words. -/
import Derived.Shelf.Pu.Lays
import Derived.Shelf.Pu.Lower
import Derived.Shelf.Pu.ParseUintEmpty
import Derived.Shelf.Pu.ToError
import Derived.Shelf.Pu.ToErrorRange
import Derived.Lib.Strings
import Derived.Lib.Walk
import Derived.Lib.ConvBytes
import Derived.Lib.AtoiErrMem
import Derived.Lib.AtoiAllMem
import Derived.Lib.ParseIntBMem
import Derived.Lib.Hide
import Derived.Laws.Strings3
import Derived.Laws.Closers25
import Derived.Laws.Closers25b
import Derived.WalkKit
import Derived.BigCall
import Derived.BigGuard
import Derived.Test.YtmhgacgneckboaaGreatDoorQa
import Derived.Test.YtmhgacgneckboaaGreatDoorQb
import Derived.Test.YtmhgacgneckboaaGreatDoorQc
namespace Adr
open Go
theorem or_all : ∀ k : Fin 256, bits .or .u8 ((k.val : Nat) : Int) 32 = (((UInt8.ofNat k.val ||| 32).toNat : Nat) : Int) := by decide +kernel
theorem or_byte (c : UInt8) : bits .or .u8 (c.toNat : Int) 32 = ((c ||| 32).toNat : Int) := by
  have := or_all ⟨c.toNat, c.toNat_lt⟩
  simpa using this
end Adr
namespace Go.Proofs.YtmhgacgneckboaaGreatDoor
open Go.Shelf Go.RowKit
variable {P : Program} {ρ : Ren}

/-- What the inner ParseUint hands back. -/
def inner (T : TypeId) : Option (Option Nat) → Value
  | some (some u) => .tuple #[.int .u64 (u : Int), .nilIface]
  | some none => .tuple #[.int .u64 281474976710655, .iface T (.int .i64 1)]
  | none => .tuple #[.int .u64 0, .iface T (.int .i64 2)]
theorem lower_is (L : LaysPu.n19 P ρ) (x m : Int) (h : bits .or .u8 x 32 = m) (w : World) :
    Calls P (ρ.f 19) #[.int .u8 x] w fun e w' => e = .returned (.int .u8 m) ∧ w' = w := by
  subst h
  exact AnyPu.internal_strconv_lower L x w

set_option maxHeartbeats 32000000 in
set_option maxRecDepth 100000 in
theorem inner16 (L : LaysPu.n16 P ρ) (t : ByteArray) (hne : t.size ≠ 0) (hmax : t.size ≤ 9223372036854775806) (w : World) :
    Calls P (ρ.f 16) #[.string t, .int .i64 16, .int .i64 48] w fun e w' => e = .returned (inner (ρ.t 34) (Adr.parse16 0 t.data.toList)) ∧ w' = Lib.bytesWorld w (ρ.t 5) t := by
  have mixed := L.mixed
  have t9 := L.t9; have a9 := L.a9; have z9 := L.z9; have v9 := L.v9
  have t3 := L.t3; have a3 := L.a3; have z3 := L.z3; have v3 := L.v3
  have t22 := L.t22; have a22 := L.a22; have z22 := L.z22; have v22 := L.v22
  have t24 := L.t24; have a24 := L.a24; have z24 := L.z24; have v24 := L.v24
  have t4 := L.t4; have a4 := L.a4; have z4 := L.z4; have v4 := L.v4
  have t34 := L.t34; have a34 := L.a34; have z34 := L.z34; have v34 := L.v34
  have t5 := L.t5; have a5 := L.a5; have z5 := L.z5; have v5 := L.v5
  have t36 := L.t36; have a36 := L.a36; have z36 := L.z36; have v36 := L.v36
  have t37 := L.t37; have a37 := L.a37; have z37 := L.z37; have v37 := L.v37
  have t0 := L.t0; have a0 := L.a0; have z0 := L.z0; have v0 := L.v0
  have e19 : ∀ args w, (callFunc (ρ.f 19) args).run P w = .ok (.enter (ρ.f 19) args) w := enters_of L.f19 (by kernel_rfl) rfl
  have hemp : t.toList.isEmpty = false := by
    rw [← decide_eq_emptyBytes]
    exact decide_eq_false (fun h => hne (by rw [h]; rfl))
  have hcv := Lib.run_convert_string_bytes (P := P) w (ρ.t 9) (ρ.t 37) (ρ.t 5) t (u := .string) L.t9 L.t37 L.t5
  have hB : ∀ j, j < t.size → (Lib.bytesWorld w (ρ.t 5) t).cell? ⟨w.heap.size, j, none⟩ = some (.int .u8 (t.data.toList.getD j 0).toNat) := fun j hj => Lib.bytesWorld_cell w (ρ.t 5) t j hj
  obtain ⟨W1, hW1⟩ : ∃ W1, W1 = Lib.bytesWorld w (ρ.t 5) t := ⟨_, rfl⟩
  rw [← hW1] at hcv hB ⊢
  clear hW1
  obtain ⟨bs, hL⟩ : ∃ bs, bs = t.data.toList := ⟨_, rfl⟩
  have hLn : bs.length = t.size := by rw [hL, Lib.size_eq]
  rw [← hL] at hB ⊢
  clear hL
  have hmv : IntKind.u64.wrap (IntKind.u64.wrap 281474976710656 - 1) = 281474976710655 := by
    rw [IntKind.wrap_u64, IntKind.wrap_u64]
    decide
  go_enter L.f16, BodyPu.n16_ntmps ρ
  go_wp2
  go_loop [12, 13, 101] (fun vu vn vi => ∃ (k acc : Nat) (a : Int), vu = .bool false ∧ vn = .int .u64 a ∧ vi = .int .i64 k ∧ k ≤ t.size ∧ Hid (a = (acc : Int) ∧ acc ≤ 281474976710655 ∧ Adr.parse16 0 bs = Adr.parse16 acc (bs.drop k)))
    (fun _ _ vi => t.size - (intOf vi).toNat)
  case atStart => exact ⟨0, 0, 0, rfl, rfl, rfl, by omega, rfl, by omega, rfl⟩
  case round =>
    obtain ⟨k, acc, a, rfl, rfl, rfl, hk, hh⟩ := hrel
    obtain ⟨ha, hacc, hdec⟩ := hh.out
    clear hh
    have a0 : 0 ≤ a := by omega
    have a1 : a ≤ 281474976710655 := by omega
    by_cases hkn : k < t.size
    · have hc := hB k hkn
      have hdrop : bs.drop k = bs[k]'(by omega) :: bs.drop (k + 1) := List.drop_eq_getElem_cons (by omega)
      have hget : bs.getD k 0 = bs[k]'(by omega) := by simp [List.getD, List.getElem?_eq_getElem (show k < bs.length by omega)]
      rw [hdrop] at hdec
      rw [hget] at hc
      generalize bs[k]'(by omega) = c at hc hdec
      have hc256 : c.toNat < 256 := c.toNat_lt
      clear hB hdrop hget
      by_cases hdig : 48 ≤ c.toNat ∧ c.toNat ≤ 57
      · obtain ⟨hd0, hd1⟩ := hdig
        have hd : Adr.dig36 c = c.toNat - 48 := by unfold Adr.dig36; rw [if_pos ⟨hd0, hd1⟩]
        have hF : Adr.parse16 acc (c :: bs.drop (k + 1)) = if 281474976710656 ≤ acc * 16 + (c.toNat - 48) then some none else Adr.parse16 (acc * 16 + (c.toNat - 48)) (bs.drop (k + 1)) := by
          rw [Adr.parse16, hd, if_neg (by omega)]
        rw [hF] at hdec
        clear hd hF
        by_cases hov : 281474976710656 ≤ acc * 16 + (c.toNat - 48)
        · rw [if_pos hov] at hdec
          have iov : 281474976710655 < a * 16 + ((c.toNat : Int) - 48) := by omega
          clear hacc hov ha
          go_wp2
          go_ret2
          exact ⟨rfl, rfl⟩
        · rw [if_neg hov] at hdec
          have HN : Hid (a * 16 + ((c.toNat : Int) - 48) = ((acc * 16 + (c.toNat - 48) : Nat) : Int) ∧ acc * 16 + (c.toNat - 48) ≤ 281474976710655 ∧ Adr.parse16 0 bs = Adr.parse16 (acc * 16 + (c.toNat - 48)) (bs.drop (k + 1))) := Lib.hid ⟨by omega, by omega, hdec⟩
          have iov : a * 16 + ((c.toNat : Int) - 48) ≤ 281474976710655 := by omega
          clear hacc hov hdec ha
          go_wp2
          refine ⟨⟨k + 1, acc * 16 + (c.toNat - 48), a * 16 + ((c.toNat : Int) - 48), rfl, (by first | rfl | (congr 1; omega)), (by first | rfl | (congr 1; omega)), by omega, HN⟩, by simp [intOf]; omega⟩
      · have Hlo := Lib.hid (Adr.or_byte c)
        by_cases h95 : c.toNat = 95
        · obtain rfl : c = 95 := UInt8.toNat_inj.1 (by rw [h95]; rfl)
          have hF : Adr.parse16 acc (95 :: bs.drop (k + 1)) = none := by rw [Adr.parse16, if_pos (by decide)]
          rw [hF] at hdec
          clear hacc hF ha Hlo h95 hdig hc256
          have Hu := Lib.hid (show bits .or .u8 95 32 = 127 by decide +kernel)
          go_wp2_with (go_at_fn (ρ.f 19); refine (lower_is { L with } _ 127 Hu.out _).mono ?_; rintro e w' ⟨rfl, rfl⟩)
          all_goals go_ret2
          all_goals first | exact ⟨rfl, rfl⟩ | exact ⟨by rw [hdec]; rfl, rfl⟩
        · have hn95 : ((c.toNat : Int) == 95) = false := by rw [beq_eq_false_iff_ne]; omega
          have hcase : c.toNat < 48 ∨ 57 < c.toNat := by omega
          by_cases hlet : 97 ≤ (c ||| 32).toNat ∧ (c ||| 32).toNat ≤ 122
          · have hd : Adr.dig36 c = (c ||| 32).toNat - 97 + 10 := by unfold Adr.dig36; rw [if_neg hdig, if_pos hlet]
            rw [Adr.parse16, hd] at hdec
            clear hd hdig h95
            generalize (c ||| 32).toNat = lo at Hlo hdec hlet
            obtain ⟨hl0, hl1⟩ := hlet
            by_cases h16 : 16 ≤ lo - 97 + 10
            · rw [if_pos h16] at hdec
              have i16 : 102 < lo := by omega
              clear h16 hacc ha
              rcases hcase with hcase | hcase
              all_goals
                go_wp2_with (go_at_fn (ρ.f 19); refine (lower_is { L with } _ (lo : Int) Hlo.out _).mono ?_; rintro e w' ⟨rfl, rfl⟩)
                all_goals go_ret2
                all_goals first | exact ⟨rfl, rfl⟩ | exact ⟨by rw [hdec]; rfl, rfl⟩
            · rw [if_neg h16] at hdec
              have i16 : lo ≤ 102 := by omega
              clear h16
              by_cases hov : 281474976710656 ≤ acc * 16 + (lo - 97 + 10)
              · rw [if_pos hov] at hdec
                have iov : 281474976710655 < a * 16 + ((lo : Int) - 97 + 10) := by omega
                clear hacc hov ha
                rcases hcase with hcase | hcase
                all_goals
                  go_wp2_with (go_at_fn (ρ.f 19); refine (lower_is { L with } _ (lo : Int) Hlo.out _).mono ?_; rintro e w' ⟨rfl, rfl⟩)
                  all_goals go_ret2
                  all_goals first | exact ⟨rfl, rfl⟩ | exact ⟨by rw [hdec]; rfl, rfl⟩
              · rw [if_neg hov] at hdec
                have HN : Hid (a * 16 + ((lo : Int) - 97 + 10) = ((acc * 16 + (lo - 97 + 10) : Nat) : Int) ∧ acc * 16 + (lo - 97 + 10) ≤ 281474976710655 ∧ Adr.parse16 0 bs = Adr.parse16 (acc * 16 + (lo - 97 + 10)) (bs.drop (k + 1))) := Lib.hid ⟨by omega, by omega, hdec⟩
                have iov : a * 16 + ((lo : Int) - 97 + 10) ≤ 281474976710655 := by omega
                clear hacc hov hdec ha
                rcases hcase with hcase | hcase
                all_goals
                  go_wp2_with (go_at_fn (ρ.f 19); refine (lower_is { L with } _ (lo : Int) Hlo.out _).mono ?_; rintro e w' ⟨rfl, rfl⟩)
                  refine ⟨⟨k + 1, acc * 16 + (lo - 97 + 10), a * 16 + ((lo : Int) - 97 + 10), rfl, (by first | rfl | (congr 1; omega)), (by first | rfl | (congr 1; omega)), by omega, HN⟩, by simp [intOf]; omega⟩
          · have hd : Adr.dig36 c = 255 := by unfold Adr.dig36; rw [if_neg hdig, if_neg hlet]
            rw [Adr.parse16, hd, if_pos (by decide)] at hdec
            clear hd hdig h95 hacc ha
            generalize (c ||| 32).toNat = lo at Hlo hlet
            have hl2 : lo < 97 ∨ 122 < lo := by omega
            clear hlet
            rcases hcase with hcase | hcase <;> rcases hl2 with hl2 | hl2
            all_goals
              go_wp2_with (go_at_fn (ρ.f 19); refine (lower_is { L with } _ (lo : Int) Hlo.out _).mono ?_; rintro e w' ⟨rfl, rfl⟩)
              all_goals go_ret2
              all_goals first | exact ⟨rfl, rfl⟩ | exact ⟨by rw [hdec]; rfl, rfl⟩
    · have hkk : k = t.size := by omega
      subst hkk
      have hF : Adr.parse16 acc (bs.drop t.size) = some (some acc) := by rw [List.drop_eq_nil_of_le (by omega)]; rfl
      rw [hF] at hdec
      subst ha
      clear hacc hF a0 a1
      go_wp2
      go_ret2
      exact ⟨rfl, rfl⟩

theorem inner16_all (L : LaysPu.n16 P ρ) (t : ByteArray) (hmax : t.size ≤ 9223372036854775806) (w : World) :
    Calls P (ρ.f 16) #[.string t, .int .i64 16, .int .i64 48] w fun e w' => e = .returned (inner (ρ.t 34) (Adr.parseMac t.data.toList)) ∧ (w' = w ∨ w' = Lib.bytesWorld w (ρ.t 5) t) := by
  by_cases h0 : t.size = 0
  · have ht : t = ⟨#[]⟩ := by
      apply ByteArray.ext
      exact Array.eq_empty_of_size_eq_zero h0
    subst ht
    exact (AnyPu.internal_strconv_ParseUint_empty { L with } 16 48 w).mono fun e w' ⟨he, hw⟩ => ⟨he, Or.inl hw⟩
  · have hne : t.data.toList ≠ [] := fun h => h0 (by rw [Lib.size_eq, h]; rfl)
    refine (inner16 { L with } t h0 hmax w).mono fun e w' ⟨he, hw⟩ => ⟨?_, Or.inr hw⟩
    rw [he, Adr.parseMac, if_neg hne]

/-- What strconv.ParseUint(s, 16, 48) hands back. -/
def Parsed (T : TypeId) (r : Option (Option Nat)) (e : Ending) : Prop :=
  match r with
  | some (some u) => e = .returned (.tuple #[.int .u64 (u : Int), .nilIface])
  | none => ∃ p, e = .returned (.tuple #[.int .u64 0, .iface T p])
  | some none => ∃ p, e = .returned (.tuple #[.int .u64 281474976710655, .iface T p])

set_option maxHeartbeats 4000000 in
set_option maxRecDepth 100000 in
theorem parse16_any (L : LaysPu.n14 P ρ) (s : ByteArray) (hlim : s.size ≤ 281474976710656) (t1 t2 : TypeId) (p1 p2 : Value) (w : World)
    (hv0 : w.cell? ⟨(ρ.g 0), 0, none⟩ = some (.iface t1 p1)) (hv1 : w.cell? ⟨(ρ.g 1), 0, none⟩ = some (.iface t2 p2)) :
    Calls P (ρ.f 14) #[.string s, .int .i64 16, .int .i64 48] w fun e w' => Parsed (ρ.t 39) (Adr.parseMac s.data.toList) e ∧ Below w.heap.size w w' := by
  have mixed := L.mixed
  have t9 := L.t9; have a9 := L.a9; have z9 := L.z9; have v9 := L.v9
  have t3 := L.t3; have a3 := L.a3; have z3 := L.z3; have v3 := L.v3
  have t22 := L.t22; have a22 := L.a22; have z22 := L.z22; have v22 := L.v22
  have t24 := L.t24; have a24 := L.a24; have z24 := L.z24; have v24 := L.v24
  have t25 := L.t25; have a25 := L.a25; have z25 := L.z25; have v25 := L.v25
  have t4 := L.t4; have a4 := L.a4; have z4 := L.z4; have v4 := L.v4
  have e16 : ∀ args w, (callFunc (ρ.f 16) args).run P w = .ok (.enter (ρ.f 16) args) w := enters_of L.f16 (by kernel_rfl) rfl
  have e17 : ∀ args w, (callFunc (ρ.f 17) args).run P w = .ok (.enter (ρ.f 17) args) w := enters_of L.f17 (by kernel_rfl) rfl
  have hG0 : (ρ.g 0) < w.heap.size := Lib.lt_of_cell hv0
  have hG1 : (ρ.g 1) < w.heap.size := Lib.lt_of_cell hv1
  have hI := inner16_all { L with } s (by omega) w
  rcases h : Adr.parseMac s.data.toList with _ | (_ | u)
  rotate_left 2
  ·
    rw [h] at hI
    have hI : Calls P (ρ.f 16) #[.string s, .int .i64 16, .int .i64 48] w fun e w' => e = .returned (.tuple #[.int .u64 u, .nilIface]) ∧ (w' = w ∨ w' = Lib.bytesWorld w (ρ.t 5) s) := hI
    clear h hv0 hv1
    go_enter L.f14, BodyPu.n14_ntmps ρ
    go_wp2_with (go_at_fn (ρ.f 16); refine hI.mono ?_; rintro e W1 ⟨rfl, hW⟩)
    go_wp2
    go_ret2
    refine ⟨rfl, ?_⟩
    rcases hW with rfl | rfl
    · exact Below.refl _ _
    · exact Lib.bytesWorld_below _ _ _
  ·
    rw [h] at hI
    have hI : Calls P (ρ.f 16) #[.string s, .int .i64 16, .int .i64 48] w fun e w' => e = .returned (.tuple #[.int .u64 0, .iface (ρ.t 34) (.int .i64 2)]) ∧ (w' = w ∨ w' = Lib.bytesWorld w (ρ.t 5) s) := hI
    clear h
    go_enter L.f14, BodyPu.n14_ntmps ρ
    go_wp2_with (go_at_fn (ρ.f 16); refine hI.mono ?_)
    rintro e W1 ⟨rfl, hW⟩
    have hb1 : Below w.heap.size w W1 := by
      rcases hW with rfl | rfl
      · exact Below.refl _ _
      · exact Lib.bytesWorld_below _ _ _
    have hw1 : W1.cell? ⟨(ρ.g 0), 0, none⟩ = some (.iface t1 p1) := (hb1.cell (show (⟨(ρ.g 0), 0, none⟩ : Addr).block < w.heap.size from hG0)).trans hv0
    clear hW hv0 hv1
    go_wp2_with (go_at_fn (ρ.f 17); refine (AnyPu.strconv_toError_syntax { L with } ⟨#[80, 97, 114, 115, 101, 85, 105, 110, 116]⟩ s 16 48 (.iface t1 p1) _ hlim ?_ (Or.inr ⟨t1, p1, rfl⟩)).mono ?_)
    · exact hw1
    rintro e W2 ⟨N, rfl, h1, h2, h3⟩
    go_wp2
    go_ret2
    exact ⟨⟨_, rfl⟩, hb1.trans (h3.mono hb1.size)⟩
  ·
    rw [h] at hI
    have hI : Calls P (ρ.f 16) #[.string s, .int .i64 16, .int .i64 48] w fun e w' => e = .returned (.tuple #[.int .u64 281474976710655, .iface (ρ.t 34) (.int .i64 1)]) ∧ (w' = w ∨ w' = Lib.bytesWorld w (ρ.t 5) s) := hI
    clear h
    go_enter L.f14, BodyPu.n14_ntmps ρ
    go_wp2_with (go_at_fn (ρ.f 16); refine hI.mono ?_)
    rintro e W1 ⟨rfl, hW⟩
    have hb1 : Below w.heap.size w W1 := by
      rcases hW with rfl | rfl
      · exact Below.refl _ _
      · exact Lib.bytesWorld_below _ _ _
    have hw1 : W1.cell? ⟨(ρ.g 1), 0, none⟩ = some (.iface t2 p2) := (hb1.cell (show (⟨(ρ.g 1), 0, none⟩ : Addr).block < w.heap.size from hG1)).trans hv1
    clear hW hv0 hv1
    go_wp2_with (go_at_fn (ρ.f 17); refine (AnyPu.strconv_toError_range { L with } ⟨#[80, 97, 114, 115, 101, 85, 105, 110, 116]⟩ s 16 48 (.iface t2 p2) _ hlim ?_ (Or.inr ⟨t2, p2, rfl⟩)).mono ?_)
    · exact hw1
    rintro e W2 ⟨N, rfl, h1, h2, h3⟩
    go_wp2
    go_ret2
    exact ⟨⟨_, rfl⟩, hb1.trans (h3.mono hb1.size)⟩
end Go.Proofs.YtmhgacgneckboaaGreatDoor

namespace Adr
open Go Go.Lib
theorem splitB_parts (c : UInt8) (s : ByteArray) : (splitB ⟨#[c]⟩ 0 (countB s ⟨#[c]⟩) s).map (·.data.toList) = parts c s.data.toList := by
  rw [splitB_data, ← split_parts]; rfl
theorem countB_parts (c : UInt8) (s : ByteArray) : countB s ⟨#[c]⟩ + 1 = (parts c s.data.toList).length := by
  rw [← splitB_parts, List.length_map, splitB_all ⟨#[c]⟩ (Nat.le_refl 1) 0 _ s rfl]
end Adr
namespace Go.Proofs.YtmhgacgneckboaaGreatDoor
open Go.RowKit

theorem cut_hit (s : ByteArray) (c : UInt8) (a r : List UInt8) (w : World) (hE : Env w) (hs : s.size ≤ 100000000) (h : s.data.toList = a ++ c :: r) (ha : c ∉ a) :
    Calls Tryz.prog 39 #[.string s, .string ⟨#[c]⟩] w fun e w' => e = .returned (.tuple #[.string ⟨a.toArray⟩, .string ⟨r.toArray⟩, .bool true]) ∧ Below w.heap.size w w' := by
  obtain ⟨m, hm⟩ := hE.mx
  refine (Tryz.strings_Cut s ⟨#[c]⟩ m w (by omega) hm).mono fun e w' ⟨he, n, hw⟩ => ?_
  have e1 : Lib.cut s.data.toList (⟨#[c]⟩ : ByteArray).data.toList = (a, r, true) := by rw [h]; exact Adr.cut_at c a r ha
  rw [e1] at he
  exact ⟨he, by rw [hw]; exact below_drews n⟩
theorem cut_no (s : ByteArray) (c : UInt8) (w : World) (hE : Env w) (hs : s.size ≤ 100000000) (h : c ∉ s.data.toList) :
    Calls Tryz.prog 39 #[.string s, .string ⟨#[c]⟩] w fun e w' => e = .returned (.tuple #[.string s, .string ⟨#[]⟩, .bool false]) ∧ Below w.heap.size w w' := by
  obtain ⟨m, hm⟩ := hE.mx
  refine (Tryz.strings_Cut s ⟨#[c]⟩ m w (by omega) hm).mono fun e w' ⟨he, n, hw⟩ => ?_
  have e1 : Lib.cut s.data.toList (⟨#[c]⟩ : ByteArray).data.toList = (s.data.toList, [], false) := Adr.cut_miss c _ h
  rw [e1, Lib.mk_data] at he
  exact ⟨he, by rw [hw]; exact below_drews n⟩
theorem strip_len (l : List UInt8) (c : UInt8) : (Lib.replaceAll l [c] []).length ≤ l.length := by
  rw [Adr.replace_filter]; exact List.length_filter_le _ _
theorem glue_len (c : UInt8) (L : List (List UInt8)) (n : Nat) (h : ∀ p ∈ L, p.length ≤ n) : (Adr.glue c L).length ≤ L.length * (n + 1) := by
  induction L with
  | nil => simp [Adr.glue]
  | cons a r ih =>
    have ha := h a (by simp)
    have hr := ih fun p hp => h p (by simp [hp])
    rw [List.length_cons, Nat.add_mul]
    cases r with
    | nil => simp [Adr.glue]; omega
    | cons b r => rw [Adr.glue_more]; simp only [List.length_append, List.length_cons] at hr ⊢; omega
theorem rd_own_spot {w : World} {base k n : Nat} {e : TypeId} {A : Option Addr} {c : Nat} {xs : List Value} (h : w.ownsRow base e k (.slice A n c) n xs) : ∀ ad, A = some ad → ad.spot = none := by
  rintro ad rfl
  rcases h.2 with ⟨hv, _⟩ | ⟨g, cap, cur, hv, _⟩
  · cases hv
  · injection hv with hA; injection hA with hA; rw [hA]

end Go.Proofs.YtmhgacgneckboaaGreatDoor
