/- A walk: SchemaTypes. -/
import Derived.Test.YtfgjlnaojjldcaaGreatDoorGn
namespace Go.Proofs.YtfgjlnaojjldcaaGreatDoor
open Go Go.RowKit Go.Sort Sch Adr Mtr Tre

set_option maxHeartbeats 2000000 in
set_option maxRecDepth 100000 in
theorem schemaTypes_any (k s : ByteArray) (w : World) (hE : Env w) (_hk : k.size ≤ maxLen) (_hs : s.size ≤ maxLen) :
    Calls Tryz.prog 4 #[.string k, .string s] w fun e w' => e = .returned (.bool true) ∧ Below w.heap.size w w' := by
  have HA := Lib.hid (fun W (hb : Below w.heap.size w W) => awake13_any W (hE.below hb))
  by_cases h : 100 < k.size ∨ 100 < s.size
  · by_cases hk : (100 : Int) < (k.size : Int)
    · go_enter Tryz.func4, Tryz.ntmps4
      go_wp2_with fail
      refine (HA.out w (Below.refl _ _)).mono ?_
      rintro e w2 ⟨rfl, hb2⟩
      go_wp2_with fail
      go_ret
      exact ⟨rfl, hb2⟩
    · have hs : (100 : Int) < (s.size : Int) := by omega
      go_enter Tryz.func4, Tryz.ntmps4
      go_wp2_with fail
      refine (HA.out w (Below.refl _ _)).mono ?_
      rintro e w2 ⟨rfl, hb2⟩
      go_wp2_with fail
      go_ret
      exact ⟨rfl, hb2⟩
  · have hk : ¬ (100 : Int) < (k.size : Int) := by omega
    have hs : ¬ (100 : Int) < (s.size : Int) := by omega
    have HT := Lib.hid (fun W (hb : Below w.heap.size w W) => type_any k s W (hE.below hb) (by omega))
    have HR := Lib.hid (fun W => refType_any k s W (by omega))
    generalize typeB k s = tb at *
    clear h hE
    go_enter Tryz.func4, Tryz.ntmps4
    go_wp2_with fail
    refine (HT.out w (Below.refl _ _)).mono ?_
    rintro e w2 ⟨rfl, hb2⟩
    have HB2 := Lib.hid hb2
    clear HT hb2
    go_wp2_with fail
    refine (HR.out w2).mono ?_
    rintro e w3 ⟨rfl, hb3⟩
    have HB3 := Lib.hid (below_step HB2.out hb3)
    clear HR hb3 HB2
    go_wp2_with fail
    refine (HA.out w3 HB3.out).mono ?_
    rintro e w4 ⟨rfl, hb4⟩
    go_wp2_with fail
    go_ret
    exact ⟨rfl, below_step HB3.out hb4⟩
end Go.Proofs.YtfgjlnaojjldcaaGreatDoor
