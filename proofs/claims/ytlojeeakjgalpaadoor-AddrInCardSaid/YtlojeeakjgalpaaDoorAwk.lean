/- A walk: layer 10's fixed answer. -/
import Derived.Test.YtlojeeakjgalpaaDoorMacR
namespace Adr
open Go
def awkPre : List UInt8 := [49, 48, 46, 48, 46, 48, 46, 48, 47, 56]
def awkMac : List UInt8 := [48, 48, 58, 49, 49, 58, 50, 50, 58, 97, 97, 58, 98, 98, 58, 102, 102]
def awkBad : List UInt8 := [49, 48, 46, 48, 46, 48, 46, 50, 53, 54]
theorem awk_pre : pre awkPre = (167772160, 8) := by decide +kernel
theorem awk_preText : preText 167772160 8 = awkPre := by
  have h := pre_fore awkPre (by rw [awk_pre]; decide)
  rw [awk_pre] at h; exact h.2
theorem awk_right : right 167772160 8 = true := by decide +kernel
theorem awk_mac : mac awkMac = 73596058623 := by decide +kernel
theorem awk_macText : macText 73596058623 = awkMac := by
  have h := mac_fore awkMac (by rw [awk_mac]; decide)
  rw [awk_mac] at h; exact h.2
theorem awk_bad : ip awkBad = -1 := by decide +kernel
theorem awk_in : isIn 167772160 8 167772161 = true := by decide +kernel
end Adr
namespace Go.Proofs.YtlojeeakjgalpaaDoor
open Go.RowKit

set_option maxHeartbeats 1000000 in
set_option maxRecDepth 100000 in
theorem awake_any (w : World) (hE : Env w) :
    Calls Tryd.prog 11 #[] w fun e w' => e = .returned (.bool true) ∧ Below w.heap.size w w' := by
  have h1 := Lib.hid (show ∀ W, Env W → Calls Tryd.prog 23 #[.string ⟨#[49, 48, 46, 48, 46, 48, 46, 48, 47, 56]⟩] W fun e w' => e = .returned (.tuple #[.int .i64 167772160, .int .i64 8, .bool true]) ∧ Below W.heap.size W w' from fun W hW => by
    have := pre_any ⟨Adr.awkPre.toArray⟩ W hW (by decide)
    rw [data_mk, Adr.awk_pre] at this; exact this)
  have h2 := Lib.hid (show ∀ W, Env W → Calls Tryd.prog 24 #[.int .i64 167772160, .int .i64 8] W fun e w' => e = .returned (.tuple #[.string ⟨#[49, 48, 46, 48, 46, 48, 46, 48, 47, 56]⟩, .bool true]) ∧ Below W.heap.size W w' from fun W hW => by
    have := preText_any 167772160 8 W hW Adr.awk_right
    rw [show Adr.preText (167772160 : Int).toNat (8 : Int).toNat = Adr.awkPre from Adr.awk_preText] at this; exact this)
  have h3 := Lib.hid (show ∀ W, Env W → Calls Tryd.prog 25 #[.string ⟨#[48, 48, 58, 49, 49, 58, 50, 50, 58, 97, 97, 58, 98, 98, 58, 102, 102]⟩] W fun e w' => e = .returned (.tuple #[.int .i64 73596058623, .bool true]) ∧ Below W.heap.size W w' from fun W hW => by
    have := mac_any ⟨Adr.awkMac.toArray⟩ W hW (by decide)
    rw [data_mk, Adr.awk_mac] at this; exact this)
  have h4 := Lib.hid (show ∀ W, Calls Tryd.prog 26 #[.int .i64 73596058623] W fun e w' => e = .returned (.tuple #[.string ⟨#[48, 48, 58, 49, 49, 58, 50, 50, 58, 97, 97, 58, 98, 98, 58, 102, 102]⟩, .bool true]) ∧ Below W.heap.size W w' from fun W => by
    have := macText_any 73596058623 W (by decide) (by decide)
    rw [show Adr.macText (73596058623 : Int).toNat = Adr.awkMac from Adr.awk_macText] at this; exact this)
  have h5 := Lib.hid (show ∀ W, Env W → Calls Tryd.prog 27 #[.string ⟨#[49, 48, 46, 48, 46, 48, 46, 50, 53, 54]⟩] W fun e w' => e = .returned (.tuple #[.int .i64 0, .bool false]) ∧ Below W.heap.size W w' from fun W hW => by
    have := ip_any ⟨Adr.awkBad.toArray⟩ W hW (by decide)
    rw [data_mk, Adr.awk_bad] at this; exact this)
  have h6 := Lib.hid (show ∀ W, Calls Tryd.prog 10 #[.int .i64 167772160, .int .i64 8, .int .i64 167772161] W fun e w' => e = .returned (.bool true) ∧ W = w' from fun W => by
    have := in_any 167772160 8 167772161 W
    rw [Adr.awk_in] at this; exact this)
  go_enter Tryd.func11, Tryd.ntmps11
  go_wp2_with fail
  refine (h1.out _ hE).mono ?_
  rintro e w1 ⟨rfl, hb1⟩
  have hE1 := hE.below hb1
  go_wp2_with fail
  refine (h2.out _ hE1).mono ?_
  rintro e w2 ⟨rfl, hb2⟩
  have hE2 := hE1.below hb2
  go_wp2_with fail
  refine (h3.out _ hE2).mono ?_
  rintro e w3 ⟨rfl, hb3⟩
  have hE3 := hE2.below hb3
  go_wp2_with fail
  refine (h4.out _).mono ?_
  rintro e w4 ⟨rfl, hb4⟩
  have hE4 := hE3.below hb4
  go_wp2_with fail
  refine (h5.out _ hE4).mono ?_
  rintro e w5 ⟨rfl, hb5⟩
  go_wp2_with fail
  refine (h6.out _).mono ?_
  rintro e w6 ⟨rfl, rfl⟩
  go_wp2_with fail
  go_ret
  exact ⟨rfl, below_step (below_step (below_step (below_step hb1 hb2) hb3) hb4) hb5⟩
end Go.Proofs.YtlojeeakjgalpaaDoor
