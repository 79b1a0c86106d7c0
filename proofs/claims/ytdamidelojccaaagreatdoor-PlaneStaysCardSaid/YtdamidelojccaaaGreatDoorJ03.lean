import Derived.Shelf.Pu.Lays
import Derived.Shelf.Pu.Lower
import Derived.Shelf.Pu.ParseUintEmpty
import Derived.Shelf.Pu.ToError
import Derived.Shelf.Pu.ToErrorRange
import Derived.Lib.ConvBytes
import Derived.Lib.AtoiAllMem
import Derived.Lib.ParseIntBMem
import Derived.Laws.Strings3
import Derived.Laws.Closers25
import Derived.Laws.Closers25b
import Derived.BigCall
import Derived.BigGuard
import Derived.Lib.AtoiAllCases
import Derived.Test.YtdamidelojccaaaGreatDoorJ02
set_option maxHeartbeats 32000000
set_option maxRecDepth 100000
namespace Adr
open Go
theorem Zawq : ∀ k : Fin 256, bits .or .u8 ((k.val : Nat) : Int) 32 = (((UInt8.ofNat k.val ||| 32).toNat : Nat) : Int) := by decide +kernel
theorem or_byte (c : UInt8) : bits .or .u8 (c.toNat : Int) 32 = ((c ||| 32).toNat : Int) := by
 have := Zawq ⟨c.toNat, c.toNat_lt⟩;simpa using this
end Adr
namespace Go.Proofs.Zq
open Tryz
open Go.Shelf Go.RowKit
variable {P : Program} {ρ : Ren}
def inner (T : TypeId) : Option (Option Nat) → Value
 | some (some u) => .tuple #[.int .u64 (u : Int), .nilIface]
 | some none => .tuple #[.int .u64 281474976710655, .iface T (.int .i64 1)]
 | none => .tuple #[.int .u64 0, .iface T (.int .i64 2)]
theorem Znn (L : LaysPu.n19 P ρ) (x m : Int) (h : bits .or .u8 x 32 = m) (w : World) :
 Calls P (ρ.f 19) #[.int .u8 x] w fun e w' => e = .returned (.int .u8 m) ∧ w' = w := by
 subst h;exact AnyPu.internal_strconv_lower L x w
theorem Zaty (L : LaysPu.n16 P ρ) (t : ByteArray) (hne : t.size ≠ 0) (hmax : t.size ≤ 9223372036854775806) (w : World) :
 Calls P (ρ.f 16) #[.string t, .int .i64 16, .int .i64 48] w fun e w' => e = .returned (inner (ρ.t 34) (Adr.parse16 0 t.data.toList)) ∧ w' = Lib.bytesWorld w (ρ.t 5) t := by
 have mixed := L.mixed;have t9 := L.t9; have a9 := L.a9; have z9 := L.z9; have v9 := L.v9;have t3 := L.t3; have a3 := L.a3; have z3 := L.z3; have v3 := L.v3;have t22 := L.t22; have a22 := L.a22; have z22 := L.z22; have v22 := L.v22;have t24 := L.t24; have a24 := L.a24; have z24 := L.z24; have v24 := L.v24;have t4 := L.t4; have a4 := L.a4; have z4 := L.z4; have v4 := L.v4;have t34 := L.t34; have a34 := L.a34; have z34 := L.z34; have v34 := L.v34;have t5 := L.t5; have a5 := L.a5; have z5 := L.z5; have v5 := L.v5;have t36 := L.t36; have a36 := L.a36; have z36 := L.z36; have v36 := L.v36;have t37 := L.t37; have a37 := L.a37; have z37 := L.z37; have v37 := L.v37;have t0 := L.t0; have a0 := L.a0; have z0 := L.z0; have v0 := L.v0;have e19 : ∀ args w, (callFunc (ρ.f 19) args).run P w = .ok (.enter (ρ.f 19) args) w := enters_of L.f19 (by kernel_rfl) rfl
 have hemp : t.toList.isEmpty = false := by
  rw [← decide_eq_emptyBytes];exact Yae (fun h => hne (by rw [h]; rfl))
 have hcv := Lib.run_convert_string_bytes (P := P) w (ρ.t 9) (ρ.t 37) (ρ.t 5) t (u := .string) L.t9 L.t37 L.t5;have hB : ∀ j, j < t.size → (Lib.bytesWorld w (ρ.t 5) t).cell? ⟨w.heap.size, j, none⟩ = some (.int .u8 (t.data.toList.getD j 0).toNat) := fun j hj => Lib.bytesWorld_cell w (ρ.t 5) t j hj
 obtain ⟨W1, hW1⟩ : ∃ W1, W1 = Lib.bytesWorld w (ρ.t 5) t := ⟨_, rfl⟩;rw [← hW1] at hcv hB ⊢;clear hW1;obtain ⟨bs, hL⟩ : ∃ bs, bs = t.data.toList := ⟨_, rfl⟩;have hLn : bs.length = t.size := by rw [hL, Lib.size_eq]
 rw [← hL] at hB ⊢;clear hL;have hmv : IntKind.u64.wrap (IntKind.u64.wrap 281474976710656 - 1) = 281474976710655 := by
  rw [IntKind.wrap_u64, IntKind.wrap_u64];decide
 go_enter L.f16, BodyPu.n16_ntmps ρ;go_wp2;go_loop [12, 13, 101] (fun vu vn vi => ∃ (k acc : Nat) (a : Int), vu = .bool false ∧ vn = .int .u64 a ∧ vi = .int .i64 k ∧ k ≤ t.size ∧ Hid (a = (acc : Int) ∧ acc ≤ 281474976710655 ∧ Adr.parse16 0 bs = Adr.parse16 acc (bs.drop k)))
  (fun _ _ vi => t.size - (intOf vi).toNat)
 case atStart => exact ⟨0, 0, 0, rfl, rfl, rfl, by omega, rfl, by omega, rfl⟩
 case round =>
  obtain ⟨k, acc, a, rfl, rfl, rfl, hk, hh⟩ := hrel;obtain ⟨ha, hacc, hdec⟩ := hh.out;clear hh;have a0 : 0 ≤ a := by omega
  have a1 : a ≤ 281474976710655 := by omega
  by_cases hkn : k < t.size
  · have hc := hB k hkn;have hdrop : bs.drop k = bs[k]'(by omega) :: bs.drop (k + 1) := Yay (by omega)
    have hget : bs.getD k 0 = bs[k]'(by omega) := by simp [List.getD, List.getElem?_eq_getElem (show k < bs.length by omega)]
    rw [hdrop] at hdec;rw [hget] at hc;generalize bs[k]'(by omega) = c at hc hdec
    have hc256 : c.toNat < 256 := c.toNat_lt;clear hB hdrop hget;by_cases hdig : 48 ≤ c.toNat ∧ c.toNat ≤ 57
    · obtain ⟨hd0, hd1⟩ := hdig;have hd : Adr.dig36 c = c.toNat - 48 := by unfold Adr.dig36; rw [Yan ⟨hd0, hd1⟩]
      have hF : Adr.parse16 acc (c :: bs.drop (k + 1)) = if 281474976710656 ≤ acc * 16 + (c.toNat - 48) then some none else Adr.parse16 (acc * 16 + (c.toNat - 48)) (bs.drop (k + 1)) := by
       rw [Adr.parse16, hd, Yab (by omega)]
      rw [hF] at hdec;clear hd hF;by_cases hov : 281474976710656 ≤ acc * 16 + (c.toNat - 48)
      · rw [Yan hov] at hdec;have iov : 281474976710655 < a * 16 + ((c.toNat : Int) - 48) := by omega
        clear hacc hov ha;go_wp2;go_ret2;exact ⟨rfl, rfl⟩
      · rw [Yab hov] at hdec;have HN : Hid (a * 16 + ((c.toNat : Int) - 48) = ((acc * 16 + (c.toNat - 48) : Nat) : Int) ∧ acc * 16 + (c.toNat - 48) ≤ 281474976710655 ∧ Adr.parse16 0 bs = Adr.parse16 (acc * 16 + (c.toNat - 48)) (bs.drop (k + 1))) := Zhd ⟨by omega, by omega, hdec⟩
        have iov : a * 16 + ((c.toNat : Int) - 48) ≤ 281474976710655 := by omega
        clear hacc hov hdec ha;go_wp2;refine ⟨⟨k + 1, acc * 16 + (c.toNat - 48), a * 16 + ((c.toNat : Int) - 48), rfl, (by first | rfl | (congr 1; omega)), (by first | rfl | (congr 1; omega)), by omega, HN⟩, by simp [intOf]; omega⟩
    · have Hlo := Zhd (Adr.or_byte c);by_cases h95 : c.toNat = 95
      · obtain rfl : c = 95 := Ybz.1 (by rw [h95]; rfl)
        have hF : Adr.parse16 acc (95 :: bs.drop (k + 1)) = none := by rw [Adr.parse16, Yan (by decide)]
        rw [hF] at hdec;clear hacc hF ha Hlo h95 hdig hc256;have Hu := Zhd (show bits .or .u8 95 32 = 127 by decide +kernel)
        go_wp2_with (go_at_fn (ρ.f 19); refine (Znn { L with } _ 127 Hu.out _).mono ?_; rintro e w' ⟨rfl, rfl⟩)
        all_goals go_ret2
        all_goals first | exact ⟨rfl, rfl⟩ | exact ⟨by rw [hdec]; rfl, rfl⟩
      · have hn95 : ((c.toNat : Int) == 95) = false := by rw [Yak]; omega
        have hcase : c.toNat < 48 ∨ 57 < c.toNat := by omega
        by_cases hlet : 97 ≤ (c ||| 32).toNat ∧ (c ||| 32).toNat ≤ 122
        · have hd : Adr.dig36 c = (c ||| 32).toNat - 97 + 10 := by unfold Adr.dig36; rw [Yab hdig, Yan hlet]
          rw [Adr.parse16, hd] at hdec;clear hd hdig h95;generalize (c ||| 32).toNat = lo at Hlo hdec hlet
          obtain ⟨hl0, hl1⟩ := hlet;by_cases h16 : 16 ≤ lo - 97 + 10
          · rw [Yan h16] at hdec;have i16 : 102 < lo := by omega
            clear h16 hacc ha;rcases hcase with hcase | hcase
            all_goals
             go_wp2_with (go_at_fn (ρ.f 19); refine (Znn { L with } _ (lo : Int) Hlo.out _).mono ?_; rintro e w' ⟨rfl, rfl⟩)
             all_goals go_ret2
             all_goals first | exact ⟨rfl, rfl⟩ | exact ⟨by rw [hdec]; rfl, rfl⟩
          · rw [Yab h16] at hdec;have i16 : lo ≤ 102 := by omega
            clear h16;by_cases hov : 281474976710656 ≤ acc * 16 + (lo - 97 + 10)
            · rw [Yan hov] at hdec;have iov : 281474976710655 < a * 16 + ((lo : Int) - 97 + 10) := by omega
              clear hacc hov ha;rcases hcase with hcase | hcase
              all_goals
               go_wp2_with (go_at_fn (ρ.f 19); refine (Znn { L with } _ (lo : Int) Hlo.out _).mono ?_; rintro e w' ⟨rfl, rfl⟩)
               all_goals go_ret2
               all_goals first | exact ⟨rfl, rfl⟩ | exact ⟨by rw [hdec]; rfl, rfl⟩
            · rw [Yab hov] at hdec;have HN : Hid (a * 16 + ((lo : Int) - 97 + 10) = ((acc * 16 + (lo - 97 + 10) : Nat) : Int) ∧ acc * 16 + (lo - 97 + 10) ≤ 281474976710655 ∧ Adr.parse16 0 bs = Adr.parse16 (acc * 16 + (lo - 97 + 10)) (bs.drop (k + 1))) := Zhd ⟨by omega, by omega, hdec⟩
              have iov : a * 16 + ((lo : Int) - 97 + 10) ≤ 281474976710655 := by omega
              clear hacc hov hdec ha;rcases hcase with hcase | hcase
              all_goals
               go_wp2_with (go_at_fn (ρ.f 19); refine (Znn { L with } _ (lo : Int) Hlo.out _).mono ?_; rintro e w' ⟨rfl, rfl⟩)
               refine ⟨⟨k + 1, acc * 16 + (lo - 97 + 10), a * 16 + ((lo : Int) - 97 + 10), rfl, (by first | rfl | (congr 1; omega)), (by first | rfl | (congr 1; omega)), by omega, HN⟩, by simp [intOf]; omega⟩
        · have hd : Adr.dig36 c = 255 := by unfold Adr.dig36; rw [Yab hdig, Yab hlet]
          rw [Adr.parse16, hd, Yan (by decide)] at hdec
          clear hd hdig h95 hacc ha;generalize (c ||| 32).toNat = lo at Hlo hlet
          have hl2 : lo < 97 ∨ 122 < lo := by omega
          clear hlet;rcases hcase with hcase | hcase <;> rcases hl2 with hl2 | hl2
          all_goals
           go_wp2_with (go_at_fn (ρ.f 19); refine (Znn { L with } _ (lo : Int) Hlo.out _).mono ?_; rintro e w' ⟨rfl, rfl⟩)
           all_goals go_ret2
           all_goals first | exact ⟨rfl, rfl⟩ | exact ⟨by rw [hdec]; rfl, rfl⟩
  · have hkk : k = t.size := by omega
    subst hkk;have hF : Adr.parse16 acc (bs.drop t.size) = some (some acc) := by rw [Ybd (by omega)]; rfl
    rw [hF] at hdec;subst ha;clear hacc hF a0 a1;go_wp2;go_ret2;exact ⟨rfl, rfl⟩
theorem Zzz (L : LaysPu.n16 P ρ) (t : ByteArray) (hmax : t.size ≤ 9223372036854775806) (w : World) :
 Calls P (ρ.f 16) #[.string t, .int .i64 16, .int .i64 48] w fun e w' => e = .returned (inner (ρ.t 34) (Adr.parseMac t.data.toList)) ∧ (w' = w ∨ w' = Lib.bytesWorld w (ρ.t 5) t) := by
 by_cases h0 : t.size = 0
 · have ht : t = ⟨#[]⟩ := by
    apply ByteArray.ext;exact Array.eq_empty_of_size_eq_zero h0
   subst ht;exact (AnyPu.internal_strconv_ParseUint_empty { L with } 16 48 w).mono fun e w' ⟨he, hw⟩ => ⟨he, Or.inl hw⟩
 · have hne : t.data.toList ≠ [] := fun h => h0 (by rw [Lib.size_eq, h]; rfl)
   refine (Zaty { L with } t h0 hmax w).mono fun e w' ⟨he, hw⟩ => ⟨?_, Or.inr hw⟩
   rw [he, Adr.parseMac, Yab hne]
def Zaiz (T : TypeId) (r : Option (Option Nat)) (e : Ending) : Prop :=
 match r with
 | some (some u) => e = .returned (.tuple #[.int .u64 (u : Int), .nilIface])
 | none => ∃ p, e = .returned (.tuple #[.int .u64 0, .iface T p])
 | some none => ∃ p, e = .returned (.tuple #[.int .u64 281474976710655, .iface T p])
theorem Zzg (L : LaysPu.n14 P ρ) (s : ByteArray) (hlim : s.size ≤ 281474976710656) (t1 t2 : TypeId) (p1 p2 : Value) (w : World)
 (hv0 : w.cell? ⟨(ρ.g 0), 0, none⟩ = some (.iface t1 p1)) (hv1 : w.cell? ⟨(ρ.g 1), 0, none⟩ = some (.iface t2 p2)) :
 Calls P (ρ.f 14) #[.string s, .int .i64 16, .int .i64 48] w fun e w' => Zaiz (ρ.t 39) (Adr.parseMac s.data.toList) e ∧ Below w.heap.size w w' := by
 have mixed := L.mixed;have t9 := L.t9; have a9 := L.a9; have z9 := L.z9; have v9 := L.v9;have t3 := L.t3; have a3 := L.a3; have z3 := L.z3; have v3 := L.v3;have t22 := L.t22; have a22 := L.a22; have z22 := L.z22; have v22 := L.v22;have t24 := L.t24; have a24 := L.a24; have z24 := L.z24; have v24 := L.v24;have t25 := L.t25; have a25 := L.a25; have z25 := L.z25; have v25 := L.v25;have t4 := L.t4; have a4 := L.a4; have z4 := L.z4; have v4 := L.v4;have e16 : ∀ args w, (callFunc (ρ.f 16) args).run P w = .ok (.enter (ρ.f 16) args) w := enters_of L.f16 (by kernel_rfl) rfl
 have e17 : ∀ args w, (callFunc (ρ.f 17) args).run P w = .ok (.enter (ρ.f 17) args) w := enters_of L.f17 (by kernel_rfl) rfl
 have hG0 : (ρ.g 0) < w.heap.size := Lib.lt_of_cell hv0;have hG1 : (ρ.g 1) < w.heap.size := Lib.lt_of_cell hv1;have hI := Zzz { L with } s (by omega) w
 rcases h : Adr.parseMac s.data.toList with _ | (_ | u)
 rotate_left 2
 ·
  rw [h] at hI;have hI : Calls P (ρ.f 16) #[.string s, .int .i64 16, .int .i64 48] w fun e w' => e = .returned (.tuple #[.int .u64 u, .nilIface]) ∧ (w' = w ∨ w' = Lib.bytesWorld w (ρ.t 5) s) := hI
  clear h hv0 hv1;go_enter L.f14, BodyPu.n14_ntmps ρ;go_wp2_with (go_at_fn (ρ.f 16); refine hI.mono ?_; rintro e W1 ⟨rfl, hW⟩);go_wp2;go_ret2;refine ⟨rfl, ?_⟩;rcases hW with rfl | rfl
  · exact Yac _ _
  · exact Lib.bytesWorld_below _ _ _
 ·
  rw [h] at hI;have hI : Calls P (ρ.f 16) #[.string s, .int .i64 16, .int .i64 48] w fun e w' => e = .returned (.tuple #[.int .u64 0, .iface (ρ.t 34) (.int .i64 2)]) ∧ (w' = w ∨ w' = Lib.bytesWorld w (ρ.t 5) s) := hI
  clear h;go_enter L.f14, BodyPu.n14_ntmps ρ;go_wp2_with (go_at_fn (ρ.f 16); refine hI.mono ?_);rintro e W1 ⟨rfl, hW⟩;have hb1 : Below w.heap.size w W1 := by
   rcases hW with rfl | rfl
   · exact Yac _ _
   · exact Lib.bytesWorld_below _ _ _
  have hw1 : W1.cell? ⟨(ρ.g 0), 0, none⟩ = some (.iface t1 p1) := (hb1.cell (show (⟨(ρ.g 0), 0, none⟩ : Addr).block < w.heap.size from hG0)).trans hv0
  clear hW hv0 hv1;go_wp2_with (go_at_fn (ρ.f 17); refine (AnyPu.strconv_toError_syntax { L with } ⟨#[80, 97, 114, 115, 101, 85, 105, 110, 116]⟩ s 16 48 (.iface t1 p1) _ hlim ?_ (Or.inr ⟨t1, p1, rfl⟩)).mono ?_)
  · exact hw1
  rintro e W2 ⟨N, rfl, h1, h2, h3⟩;go_wp2;go_ret2;exact ⟨⟨_, rfl⟩, hb1.trans (h3.mono hb1.size)⟩
 ·
  rw [h] at hI;have hI : Calls P (ρ.f 16) #[.string s, .int .i64 16, .int .i64 48] w fun e w' => e = .returned (.tuple #[.int .u64 281474976710655, .iface (ρ.t 34) (.int .i64 1)]) ∧ (w' = w ∨ w' = Lib.bytesWorld w (ρ.t 5) s) := hI
  clear h;go_enter L.f14, BodyPu.n14_ntmps ρ;go_wp2_with (go_at_fn (ρ.f 16); refine hI.mono ?_);rintro e W1 ⟨rfl, hW⟩;have hb1 : Below w.heap.size w W1 := by
   rcases hW with rfl | rfl
   · exact Yac _ _
   · exact Lib.bytesWorld_below _ _ _
  have hw1 : W1.cell? ⟨(ρ.g 1), 0, none⟩ = some (.iface t2 p2) := (hb1.cell (show (⟨(ρ.g 1), 0, none⟩ : Addr).block < w.heap.size from hG1)).trans hv1
  clear hW hv0 hv1;go_wp2_with (go_at_fn (ρ.f 17); refine (AnyPu.strconv_toError_range { L with } ⟨#[80, 97, 114, 115, 101, 85, 105, 110, 116]⟩ s 16 48 (.iface t2 p2) _ hlim ?_ (Or.inr ⟨t2, p2, rfl⟩)).mono ?_)
  · exact hw1
  rintro e W2 ⟨N, rfl, h1, h2, h3⟩;go_wp2;go_ret2;exact ⟨⟨_, rfl⟩, hb1.trans (h3.mono hb1.size)⟩
end Go.Proofs.Zq
namespace Adr
open Go
end Adr
namespace Go.Proofs.Zq
open Tryz
open Go.RowKit
end Go.Proofs.Zq
namespace Adr
open Go Go.Lib
def numIn (l : List UInt8) (least most : Int) : Bool := decide (0 ≤ num l) && decide (least ≤ num l) && decide (num l ≤ most)
theorem numIn_iff (l : List UInt8) (least most : Int) : numIn l least most = true ↔ 0 ≤ num l ∧ least ≤ num l ∧ num l ≤ most := by
 unfold numIn; simp only [Yar, Yao]; omega
theorem numIn_not {l : List UInt8} {least most : Int} (h : ¬ (0 ≤ num l ∧ least ≤ num l ∧ num l ≤ most)) : numIn l least most = false := by
 rw [Ycy]; exact fun e => h ((numIn_iff _ _ _).1 e)
theorem num_bad (l : List UInt8) (h : ∀ v, atoiAll l ≠ .ok v) : num l = -1 := by
 refine Zlc ?_;rw [Ycy];exact fun e => h _ (Zoh l e)
theorem num_ok (l : List UInt8) (v : Int) (h : atoiAll l = .ok v) : (num l = v ∧ l.length ≤ 10 ∧ 0 ≤ v ∧ itoa v = l) ∨ (num l = -1 ∧ (10 < l.length ∨ v < 0 ∨ itoa v ≠ l)) := by
 cases hc : Zjh l with
 | true =>
   left
   have h1 := Zoh l hc;rw [h] at h1;injection h1 with h1
   subst h1;exact ⟨Zjq hc, ((Zhx l).1 hc).2.1, by omega, Zare l hc⟩
 | false =>
   right
   refine ⟨Zlc hc, ?_⟩;by_cases h1 : 10 < l.length
   · exact .inl h1
   · by_cases h2 : v < 0
     · exact .inr (.inl h2)
     · refine .inr (.inr fun e => ?_)
       rw [(Zvi l v (by omega) (by omega) e).1] at hc
       cases hc
end Adr
namespace Go.Proofs.Zq
open Tryz
open Go.RowKit
def Zll (s : ByteArray) (least most : Int) : Value := .tuple #[.int .i64 (if Adr.numIn s.data.toList least most then Adr.num s.data.toList else 0), .bool (Adr.numIn s.data.toList least most)]
theorem Zoa {s : ByteArray} {least most : Int} (h : Adr.numIn s.data.toList least most = true) : Zll s least most = .tuple #[.int .i64 (Adr.num s.data.toList), .bool true] := by
 unfold Zll; rw [h]; rfl
theorem Zjm {s : ByteArray} {least most : Int} (h : Adr.numIn s.data.toList least most = false) : Zll s least most = .tuple #[.int .i64 0, .bool false] := by
 unfold Zll; rw [h]; rfl
theorem Zug (s : ByteArray) (w : World) (hE : Env w) (hs : s.size ≤ 281474976710656) (h : ∀ v, Lib.atoiAll s.data.toList ≠ .ok v) :
 Calls prog 215 #[.string s] w fun e w' => ∃ v p, e = .returned (.tuple #[.int .i64 v, .iface 288 p]) ∧ Below w.heap.size w w' := by
 rcases hA : Lib.atoiAll s.data.toList with v | _ | _
 · exact absurd hA (h v)
 · obtain ⟨tp, p, hv⟩ := hE.es;exact (Any.strconv_Atoi_syntax Tryz.laysC172 s hs hA _ w hv (.inr ⟨tp, p, rfl⟩)).mono fun _ _ ⟨N, he, _, _, hb⟩ => ⟨_, _, he, hb⟩
 · obtain ⟨tp, p, hv⟩ := hE.er;exact (Any.strconv_Atoi_range Tryz.laysC172 s hs hA _ w hv (.inr ⟨tp, p, rfl⟩)).mono fun _ _ ⟨N, he, _, _, hb⟩ => ⟨_, _, he, hb⟩
theorem Zhf (s : ByteArray) (w : World) (v : Int) (hs : s.size ≤ 281474976710656) (h : Lib.atoiAll s.data.toList = .ok v) :
 Calls prog 215 #[.string s] w fun e w' => e = .returned (.tuple #[.int .i64 v, .nilIface]) ∧ Below w.heap.size w w' :=
 (Tryz.strconv_Atoi_ok s (by omega) v h w).mono fun _ _ ⟨he, hw⟩ => ⟨he, by
  rcases hw with rfl | ⟨t, rfl⟩
  · exact Yac _ _
  · exact Lib.bytesWorld_below _ _ _⟩
theorem Zvf (n : Int) (w : World) (hE : Env w) (h0 : -9223372036854775808 ≤ n) (h1 : n ≤ 9223372036854775807) :
 Calls prog 216 #[.int .i64 n] w fun e w' => e = .returned (.string ⟨(Lib.itoa n).toArray⟩) ∧ Below w.heap.size w w' :=
 (Tryz.strconv_Itoa n h0 h1 w hE.tb).mono fun _ _ ⟨he, k, os, hw⟩ => ⟨he, by rw [hw]; exact Lib.below_grow _ _ (Yaf _) _ _⟩
theorem Zatd {l : List UInt8} {s : ByteArray} (h : l ≠ s.data.toList) : (l == s.toList) = false := by
 rw [Yak, Lib.toList_data]; exact h
theorem Zoo (s : ByteArray) (least most : Int) (w : World) (hE : Env w) (hs : s.size ≤ 281474976710656) :
 Calls prog 191 #[.string s, .int .i64 least, .int .i64 most] w fun e w' => e = .returned (Zll s least most) ∧ Below w.heap.size w w' := by
 by_cases hok : ∃ v, Lib.atoiAll s.data.toList = .ok v
 · obtain ⟨v, hA⟩ := hok;obtain ⟨hb0, hb1⟩ := Lib.atoiAll_bounds hA;have hsz := Zat s;rcases Adr.num_ok _ _ hA with ⟨hn, hl, hv0, hi⟩ | ⟨hn, hbad⟩
   · have HA := Zhd hA; clear hA;have Hi := Zhd hi; clear hi;rw [hsz] at hl; clear hsz;by_cases hin : least ≤ v ∧ v ≤ most
     · obtain ⟨hi1, hi2⟩ := hin;have HR := Zhd (Zoa ((Adr.numIn_iff s.data.toList least most).2 (by rw [hn]; omega)))
       have Hn := Zhd hn; clear hn;rcases Yfa least 0 with hneg | hneg
       all_goals
        go_enter func191, ntmps191;go_wp2_with fail;refine (Zhf s _ v hs HA.out).mono ?_;rintro e w1 ⟨rfl, hb1'⟩;go_wp2_with fail;refine (Zvf v _ (hE.below hb1') hb0 hb1).mono ?_;rintro e w2 ⟨rfl, hb2'⟩;rw [Hi.out, mk_data];go_wp2_with fail;go_ret2;exact ⟨by rw [HR.out, Hn.out]; rfl, Zaa hb1' hb2'⟩
     · have HR := Zhd (Zjm (Adr.numIn_not (l := s.data.toList) (least := least) (most := most) (by rw [hn]; omega)))
       have Hn := Zhd hn; clear hn;by_cases hi1 : least ≤ v
       · have hi2 : most < v := by omega
         clear hin;rcases Yfa least 0 with hneg | hneg
         all_goals
          go_enter func191, ntmps191;go_wp2_with fail;refine (Zhf s _ v hs HA.out).mono ?_;rintro e w1 ⟨rfl, hb1'⟩;go_wp2_with fail;go_ret2;exact ⟨by rw [HR.out]; rfl, hb1'⟩
       · have hi2 : v < least := by omega
         have hneg : 0 ≤ least := by omega
         clear hin hi1;go_enter func191, ntmps191;go_wp2_with fail;refine (Zhf s _ v hs HA.out).mono ?_;rintro e w1 ⟨rfl, hb1'⟩;go_wp2_with fail;go_ret2;exact ⟨by rw [HR.out]; rfl, hb1'⟩
   · have HA := Zhd hA; clear hA;have HR := Zhd (Zjm (Adr.numIn_not (l := s.data.toList) (least := least) (most := most) (by rw [hn]; omega)))
     clear hn;rw [hsz] at hbad; clear hsz;by_cases hl : 10 < s.size
     · clear hbad;go_enter func191, ntmps191;go_wp2_with fail;refine (Zhf s _ v hs HA.out).mono ?_;rintro e w1 ⟨rfl, hb1'⟩;go_wp2_with fail;go_ret2;exact ⟨by rw [HR.out]; rfl, hb1'⟩
     · have hl' : s.size ≤ 10 := by omega
       by_cases hv : v < 0
       · clear hbad hl;rcases Yfa least 0 with hneg | hneg
         all_goals
          go_enter func191, ntmps191;go_wp2_with fail;refine (Zhf s _ v hs HA.out).mono ?_;rintro e w1 ⟨rfl, hb1'⟩;go_wp2_with fail;go_ret2;exact ⟨by rw [HR.out]; rfl, hb1'⟩
       · have hv' : 0 ≤ v := by omega
         have hne := Zhd (Zatd (hbad.resolve_left hl |>.resolve_left hv))
         clear hbad hl hv;rcases Yfa v least with h1 | h1
         · have hneg : 0 ≤ least := by omega
           go_enter func191, ntmps191;go_wp2_with fail;refine (Zhf s _ v hs HA.out).mono ?_;rintro e w1 ⟨rfl, hb1'⟩;go_wp2_with fail;go_ret2;exact ⟨by rw [HR.out]; rfl, hb1'⟩
         · rcases Yfa most v with h2 | h2
           · rcases Yfa least 0 with hneg | hneg
             all_goals
              go_enter func191, ntmps191;go_wp2_with fail;refine (Zhf s _ v hs HA.out).mono ?_;rintro e w1 ⟨rfl, hb1'⟩;go_wp2_with fail;go_ret2;exact ⟨by rw [HR.out]; rfl, hb1'⟩
           · rcases Yfa least 0 with hneg | hneg
             all_goals
              go_enter func191, ntmps191;go_wp2_with fail;refine (Zhf s _ v hs HA.out).mono ?_;rintro e w1 ⟨rfl, hb1'⟩;go_wp2_with fail;refine (Zvf v _ (hE.below hb1') hb0 hb1).mono ?_;rintro e w2 ⟨rfl, hb2'⟩;have hne' := hne.out;go_wp2_with fail;go_ret2;exact ⟨by rw [HR.out]; rfl, Zaa hb1' hb2'⟩
 · have HR := Zhd (Zjm (Adr.numIn_not (l := s.data.toList) (least := least) (most := most) (by rw [Adr.num_bad _ (fun v e => hok ⟨v, e⟩)]; omega)))
   go_enter func191, ntmps191;go_wp2_with fail;refine (Zug s _ hE hs (fun v e => hok ⟨v, e⟩)).mono ?_
   rintro e w1 ⟨v, p, rfl, hb1'⟩;clear hok;go_wp2_with fail;go_ret2;exact ⟨by rw [HR.out]; rfl, hb1'⟩
end Go.Proofs.Zq
namespace Adr
open Go Go.Lib
theorem splitB_parts (c : UInt8) (s : ByteArray) : (splitB ⟨#[c]⟩ 0 (countB s ⟨#[c]⟩) s).map (·.data.toList) = parts c s.data.toList := by
 rw [splitB_data, ← Zaac]; rfl
theorem countB_parts (c : UInt8) (s : ByteArray) : countB s ⟨#[c]⟩ + 1 = (parts c s.data.toList).length := by
 rw [← splitB_parts, Yax, splitB_all ⟨#[c]⟩ (Yaf 1) 0 _ s rfl]
end Adr
namespace Go.Proofs.Zq
open Tryz
open Go.RowKit
theorem Zys (s : ByteArray) (c : UInt8) (w : World) (hE : Env w) (hs : s.size ≤ 100000000) :
 Calls prog 80 #[.string s, .string ⟨#[c]⟩] w (Zua w c s.data.toList) := by
 obtain ⟨m, hm⟩ := hE.mx;refine (Tryz.strings_Split s ⟨#[c]⟩ m w (by omega) hm (Yaf 1)).mono fun e w' ⟨he, hw⟩ => ?_
 have hl := Adr.parts_len c s.data.toList;rw [Zat] at hl;rw [Zabm, Adr.splitB_parts] at hw;have hc := Adr.countB_parts c s;refine ⟨some ⟨w.heap.size, 0, none⟩, (Adr.parts c s.data.toList).length, by rw [he, hc], Yaf _, by unfold maxLen; omega, ⟨by rw [Zqp]; omega, fun _ => ⟨_, rfl, by rw [hw]; simp, fun j u hu => ?_⟩⟩, by rw [hw]; exact (Yac _ _).alloc (Yaf _) _⟩
 rw [hw, Zae, Ybf, World.cell?_alloc_at _ _ _ _ rfl];simpa using hu
theorem Zqg (s : ByteArray) (c : UInt8) (a r : List UInt8) (w : World) (hE : Env w) (hs : s.size ≤ 100000000) (h : s.data.toList = a ++ c :: r) (ha : c ∉ a) :
 Calls prog 195 #[.string s, .string ⟨#[c]⟩] w fun e w' => e = .returned (.tuple #[.string ⟨a.toArray⟩, .string ⟨r.toArray⟩, .bool true]) ∧ Below w.heap.size w w' := by
 obtain ⟨m, hm⟩ := hE.mx;refine (Tryz.strings_Cut s ⟨#[c]⟩ m w (by omega) hm).mono fun e w' ⟨he, n, hw⟩ => ?_
 have e1 : Lib.cut s.data.toList (⟨#[c]⟩ : ByteArray).data.toList = (a, r, true) := by rw [h]; exact Adr.cut_at c a r ha
 rw [e1] at he;exact ⟨he, by rw [hw]; exact Zlu n⟩
theorem Zasv (s : ByteArray) (c : UInt8) (w : World) (hE : Env w) (hs : s.size ≤ 100000000) (h : c ∉ s.data.toList) :
 Calls prog 195 #[.string s, .string ⟨#[c]⟩] w fun e w' => e = .returned (.tuple #[.string s, .string ⟨#[]⟩, .bool false]) ∧ Below w.heap.size w w' := by
 obtain ⟨m, hm⟩ := hE.mx;refine (Tryz.strings_Cut s ⟨#[c]⟩ m w (by omega) hm).mono fun e w' ⟨he, n, hw⟩ => ?_
 have e1 : Lib.cut s.data.toList (⟨#[c]⟩ : ByteArray).data.toList = (s.data.toList, [], false) := Adr.cut_miss c _ h;rw [e1, Lib.mk_data] at he;exact ⟨he, by rw [hw]; exact Zlu n⟩
theorem Zng (s : ByteArray) (c : UInt8) (w : World) (hE : Env w) (hs : s.size ≤ 100000000) :
 Calls prog 213 #[.string s, .string ⟨#[c]⟩, .string ⟨#[]⟩] w fun e w' => e = .returned (.string ⟨(Lib.replaceAll s.data.toList [c] []).toArray⟩) ∧ Below w.heap.size w w' := by
 obtain ⟨m, hm⟩ := hE.mx;exact Tryz.strings_ReplaceAll s ⟨#[c]⟩ ⟨#[]⟩ m w (by omega) hm (Yaf 1) (by show s.size + _ * 0 ≤ _; omega)
theorem Zakn (l : List UInt8) (c : UInt8) : (Lib.replaceAll l [c] []).length ≤ l.length := by
 rw [Adr.replace_filter]; exact Ycc _ _
theorem Zaox (c : UInt8) (L : List (List UInt8)) (n : Nat) (h : ∀ p ∈ L, p.length ≤ n) : (Adr.glue c L).length ≤ L.length * (n + 1) := by
 induction L with
 | nil => simp [Adr.glue]
 | cons a r ih =>
   have ha := h a (by simp)
   have hr := ih fun p hp => h p (by simp [hp])
   rw [Ybi, Nat.add_mul];cases r with
   | nil => simp [Adr.glue]; omega
   | cons b r => rw [Adr.glue_more]; simp only [Yaj, Ybi] at hr ⊢; omega
theorem Zadq (A : Option Addr) (cap : Nat) (L : List (List UInt8)) (c : UInt8) (w : World) (hcap : L.length ≤ cap) (h : Rd w 1 A L.length (strs L)) (hz : ∀ ad, A = some ad → ad.spot = none)
 (hlen : (Adr.glue c L).length ≤ 140737488355328) (hN : L.length ≤ 1000000000) :
 Calls prog 122 #[.slice A L.length cap, .string ⟨#[c]⟩] w fun e w' => e = .returned (.string ⟨(Adr.glue c L).toArray⟩) ∧ Below w.heap.size w w' := by
 rcases Ybn L.length with h0 | h0
 · have hL : L = [] := Ycw.1 h0;subst hL;exact (Tryz.strings_Join_none A cap ⟨#[c]⟩ w).mono fun e w' ⟨he, hw⟩ => ⟨he, by rw [hw]; exact Yac _ _⟩
 · obtain ⟨⟨b, o, sp⟩, rfl, hb, hx⟩ := h.2 h0;obtain rfl : sp = none := hz _ rfl;have e1 : (L.map fun l => (⟨l.toArray⟩ : ByteArray)).map (·.data.toList) = L := by rw [Yeo]; simp [Function.comp_def]
   have hj : Lib.join ((L.map fun l => (⟨l.toArray⟩ : ByteArray)).map (·.data.toList)) (⟨#[c]⟩ : ByteArray).data.toList = Adr.glue c L := by rw [e1]; exact Adr.join_glue c L
   have hl : (L.map fun l => (⟨l.toArray⟩ : ByteArray)).length = L.length := by simp
   have hcalls := Tryz.strings_Join b o cap (L.map fun l => (⟨l.toArray⟩ : ByteArray)) ⟨#[c]⟩ w (fun j x hx' => by
    have hj' : j < L.length := by rw [← hl]; exact (Yba.1 hx').1
    rw [← Zae];refine hx j _ ?_;rw [Zadh hj'];rw [Ycs, Yag hj'] at hx';simp only [Option.map_some, Option.some.injEq] at hx';rw [hx']) hb (by omega) (by omega) (by rw [hj]; exact hlen)
   rw [hj, hl] at hcalls;exact hcalls
theorem Zabi {w : World} {base k n : Nat} {e : TypeId} {A : Option Addr} {c : Nat} {xs : List Value} (h : w.ownsRow base e k (.slice A n c) n xs) : ∀ ad, A = some ad → ad.spot = none := by
 rintro ad rfl;rcases h.2 with ⟨hv, _⟩ | ⟨g, cap, cur, hv, _⟩
 · cases hv
 · injection hv with hA; injection hA with hA; rw [hA]
theorem Zawb (s : ByteArray) (w : World) (hE : Env w) (hs : s.size ≤ 100000000) :
 Calls prog 212 #[.string s, .int .i64 16, .int .i64 48] w fun e w' => Zaiz 288 (Adr.parseMac s.data.toList) e ∧ Below w.heap.size w w' := by
 obtain ⟨t1, p1, h1⟩ := hE.es;obtain ⟨t2, p2, h2⟩ := hE.er;exact Zzg Tryz.laysPu14 s (by omega) t1 t2 p1 p2 w h1 h2
end Go.Proofs.Zq
namespace Adr
open Go
def ipTo (L : List (List UInt8)) (k : Nat) : Int := (L.take k).foldl step 0
theorem ipTo_zero (L : List (List UInt8)) : ipTo L 0 = 0 := by unfold ipTo; rw [List.take_zero]; rfl
theorem ipTo_succ (L : List (List UInt8)) (k : Nat) (h : k < L.length) : ipTo L (k + 1) = step (ipTo L k) L[k] := by
 unfold ipTo;rw [Yau h, List.foldl_append]; rfl
theorem Zaqo (n : Int) (w : List UInt8) (h : n < 0) : step n w = -1 := by unfold step; rw [Yan (.inl h)]
theorem Zars (L : List (List UInt8)) (n : Int) (h : n < 0) : L.foldl step n < 0 := by
 induction L generalizing n with
 | nil => exact h
 | cons a r ih => rw [List.foldl_cons]; exact ih _ (by rw [Zaqo n a h]; decide)
theorem ipTo_stop (L : List (List UInt8)) (k : Nat) (h : ipTo L k < 0) : ipTo L L.length < 0 := by
 unfold ipTo at h ⊢;rw [Ybw];have e := Ybk k L;rw [← e, List.foldl_append];exact Zars _ _ h
theorem ip_not (l : List UInt8) (h : (parts 46 l).length ≠ 4) : ip l = -1 := by
 unfold ip;split
 · rename_i e; rw [e] at h; simp at h
 · rfl
theorem ip_to (l : List UInt8) (h : (parts 46 l).length = 4) : ip l = ipTo (parts 46 l) 4 := by
 unfold ip ipTo;generalize parts 46 l = L at h
 match L, h with
 | [a, b, c, d], _ => rfl
theorem ipTo_bd (L : List (List UInt8)) (k : Nat) (hk : k ≤ L.length) (h4 : k ≤ 3) (h0 : 0 ≤ ipTo L k) : ipTo L k < 16777216 := by
 have s : ∀ j, j < L.length → 0 ≤ ipTo L (j + 1) → 0 ≤ ipTo L j ∧ ipTo L (j + 1) ≤ 256 * ipTo L j + 255 := by
  intro j hj h1;rw [ipTo_succ L j hj] at h1 ⊢;have := Zavq h1;omega
 have h00 := ipTo_zero L;rcases Ybp 2 k with h | h
 · obtain rfl : k = 3 := by omega
   have a := s 2 (by omega) h0; have b := s 1 (by omega) a.1; have c := s 0 (by omega) b.1
   simp only [Ybf, Nat.reduceAdd] at a b c; omega
 · rcases Ybp 1 k with h' | h'
   · obtain rfl : k = 2 := by omega
     have b := s 1 (by omega) h0; have c := s 0 (by omega) b.1
     simp only [Ybf, Nat.reduceAdd] at b c; omega
   · rcases Ybp 0 k with h2 | h2
     · obtain rfl : k = 1 := by omega
       have c := s 0 (by omega) h0
       simp only [Ybf] at c; omega
     · obtain rfl : k = 0 := by omega
       omega
theorem step_yes {n : Int} {w : List UInt8} (h0 : 0 ≤ n) (h : numIn w 0 255 = true) : step n w = 256 * n + num w := by
 have := (numIn_iff _ _ _).1 h;unfold step; rw [Yab (by omega)]
theorem step_no {n : Int} {w : List UInt8} (h : numIn w 0 255 = false) : step n w = -1 := by
 unfold step; rw [Yan];rw [Ycy] at h;have h2 : ¬ (0 ≤ num w ∧ 0 ≤ num w ∧ num w ≤ 255) := fun a => h ((numIn_iff w 0 255).2 a)
 omega
theorem or_add (a b : Int) (ha : 0 ≤ a) (ha2 : a < 16777216) (hb : 0 ≤ b) (hb2 : b ≤ 255) : bits .or .i64 (a * 256) b = 256 * a + b := by
 obtain ⟨x, rfl⟩ := Yca ha;obtain ⟨y, rfl⟩ := Yca hb;have e : ((x : Int) * 256) = ((256 * x : Nat) : Int) := by omega
 have hle : 256 * x ||| y = 256 * x + y := by
  have := Nat.two_pow_add_eq_or_of_lt (i := 8) (b := y) (by omega) x
  rw [show (2 : Nat) ^ 8 = 256 by decide] at this
  exact this.symm
 rw [e];show IntKind.i64.wrap ((BitVec.ofInt 64 ((256 * x : Nat) : Int) ||| BitVec.ofInt 64 (y : Int)).toNat : Int) = _
 rw [BitVec.toNat_or, Zhk _ (by omega), Zhk _ (by omega), hle, Zwe _ (by omega)]; omega
end Adr
namespace Go.Proofs.Zq
open Tryz
open Go.RowKit
def Zli (n : Int) : Value := .tuple #[.int .i64 (max n 0), .bool (decide (0 ≤ n))]
theorem Zrv {n : Int} (h : 0 ≤ n) : Zli n = .tuple #[.int .i64 n, .bool true] := by
 unfold Zli; rw [show max n 0 = n by omega]; simp [h]
theorem Zkm {n : Int} (h : n < 0) : Zli n = .tuple #[.int .i64 0, .bool false] := by
 unfold Zli; rw [show max n 0 = 0 by omega]; simp; omega
theorem Zacd (s : ByteArray) (w : World) (hE : Env w) (hs : s.size ≤ 100000000) :
 Calls prog 161 #[.string s] w fun e w' => e = .returned (Zli (Adr.ip s.data.toList)) ∧ Below w.heap.size w w' := by
 go_enter func161, ntmps161;go_wp2_with fail;refine (Zys s 46 _ hE hs).mono ?_;rintro e w1 ⟨A, cap, rfl, hc1, hc2, hR, hb1⟩;have hpl := Adr.parts_len 46 s.data.toList;have hps := Adr.parts_short 46 s.data.toList;rw [Zat] at hpl hps;by_cases h4 : (Adr.parts 46 s.data.toList).length = 4
 · have HI := Zhd (Adr.ip_to _ h4);generalize Adr.parts 46 s.data.toList = L at *;have hE1 := hE.below hb1;have H4 := Zhd h4;rw [h4] at hR hc1 ⊢;clear h4 hpl;go_wp2_with fail;go_loopw [5, 17] (fun o i wr => ∃ k : Nat, k ≤ 4 ∧ i = .int .i64 k ∧ o = .int .i64 (Adr.ipTo L k) ∧ 0 ≤ Adr.ipTo L k ∧ Below w1.heap.size w1 wr) (fun _ i _ => 4 - (intOf i).toNat)
   case atStart => exact ⟨0, by omega, rfl, by rw [Adr.ipTo_zero], by rw [Adr.ipTo_zero]; decide, Yac _ _⟩
   case round =>
    obtain ⟨k, hk, rfl, rfl, hn, hbr⟩ := hrel;by_cases hk4 : k < 4
    · have hkL : k < L.length := by rw [H4.out]; exact hk4
      have hsuc := Adr.ipTo_succ L k hkL;have hstop := Adr.ipTo_stop L (k + 1);have hbd := Adr.ipTo_bd L k (by omega) (by omega) hn
      have hget := Zadh hkL;have hshort := hps L[k] (Yat hkL);generalize L[k] = p at *;generalize Adr.ipTo L k = n at *;obtain ⟨ad, rfl, had, hcell⟩ := (hR.below hbr).cell hget;clear hget;cases hin : Adr.numIn p 0 255 with
      | true =>
        have hr := (Adr.numIn_iff _ _ _).1 hin;have hst := Adr.step_yes hn hin;have HR := Zhd (Zoa (s := ⟨p.toArray⟩) (by rw [Zch]; exact hin))
        rw [hst] at hsuc;have Hsuc := Zhd hsuc;have Hor := Zhd (Adr.or_add n (Adr.num p) hn hbd hr.1 hr.2.2);clear hst hsuc hin hstop;go_wp2_with fail;refine (Zoo ⟨p.toArray⟩ 0 255 _ (hE1.below hbr) (by rw [Zeo]; omega)).mono ?_
        rintro e w3 ⟨rfl, hb3⟩;rw [HR.out];go_wp2_with fail;go_roundw
        case rel => exact ⟨k + 1, by omega, by go_num, by rw [Hor.out, Hsuc.out], by rw [Hsuc.out]; omega, Zaa hbr hb3⟩
        case measure => simp [intOf]; omega
      | false =>
        have hst := Adr.step_no (n := n) hin;have HR := Zhd (Zjm (s := ⟨p.toArray⟩) (by rw [Zch]; exact hin))
        rw [hst] at hsuc;have HF := Zhd (Zkm (n := Adr.ip s.data.toList) (by
         have := hstop (by rw [hsuc]; decide)
         rw [HI.out, ← H4.out]; exact this))
        clear hst hsuc hin hstop;go_wp2_with fail;refine (Zoo ⟨p.toArray⟩ 0 255 _ (hE1.below hbr) (by rw [Zeo]; omega)).mono ?_
        rintro e w3 ⟨rfl, hb3⟩;rw [HR.out];go_wp2_with fail;go_ret2;exact ⟨by rw [HF.out]; rfl, Zaa hb1 (Zaa hbr hb3)⟩
    · have hk4' : 4 ≤ k := by omega
      have HF := Zhd (show Zli (Adr.ip s.data.toList) = .tuple #[.int .i64 (Adr.ipTo L k), .bool true] by
       obtain rfl : k = 4 := by omega
       rw [HI.out]; exact Zrv hn)
      clear hk4;go_wp2_with fail;go_ret2;exact ⟨by rw [HF.out]; rfl, Zaa hb1 hbr⟩
 · have HF := Zhd (Zkm (n := Adr.ip s.data.toList) (by rw [Adr.ip_not _ h4]; decide))
   have hne : (((Adr.parts 46 s.data.toList).length : Int) == 4) = false := by rw [Yak]; omega
   clear h4;go_wp2_with fail;go_ret2;exact ⟨by rw [HF.out]; rfl, hb1⟩
end Go.Proofs.Zq
