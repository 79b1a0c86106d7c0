/- The card of PlaneApart: for every input the law returns true and turns nothing; the listed variables of the library as the program's text lays them. No condition of its own. -/
import Derived.Test.YtkbojechhmmkcaaGreatDoorK46
import Derived.Test.YtkbojechhmmkcaaGreatDoorK45
namespace Go.Proofs.YtkbojechhmmkcaaGreatDoor.cPlaneApart
open Go Go.ChangeShapes Go.WideShapes Go.ChangeAt Go.RowKit
open Go.ChangeMaps (open_string)
open Go.Proofs.Zq

set_option maxRecDepth 100000 in
theorem contract (H : Type) (enc : TypeId × Value → H) (W : World) (base : Nat) (args : Array Value) (ds gs : List (DataW H)) (before : List MemPlace)
    (hval : ∀ (j : Nat) t v, Tryz.f5.params[j]? = some t → args[j]? = some v → Value.okWide Tryz.prog W .any base t v)
    (hW : DataW.Whole enc Tryz.prog Tryz.f5.params.toList Rows.planeApartSpec.vars false W args.toList ds gs before) (hE : Env W) :
    Calls Tryz.prog 5 args W fun e W' => ∃ v, e = .returned v ∧ Rows.planeApartSpec.post enc Tryz.prog Tryz.f5 false true false false W args v W' := by
  have hW' := hW
  obtain ⟨p, q, hA0, hV, rfl, _, _⟩ := hW
  have hA : DataW.TrodAll enc Tryz.prog W 0 (fun _ => true) true Tryz.f5.params.toList args.toList ds p := hA0
  obtain ⟨rfl, rfl⟩ := trodVars_none hV
  rw [Tryz.params5] at hA hval
  obtain ⟨v0, vs0, d0, ds0, p0, q0, hargs, rfl, rfl, h0, r0⟩ := trodAll_cons hA
  obtain ⟨v1, vs1, d1, ds1, p1, q1, rfl, rfl, rfl, h1, r1⟩ := trodAll_cons r0
  obtain ⟨rfl, rfl, rfl⟩ := trodAll_nil r1
  obtain rfl : args = #[v0, v1] := by cases args; simp_all
  obtain ⟨x0, rfl, rfl, rfl, wf0⟩ := open_int Tryz.underlying23 (hval 0 23 v0 rfl rfl) h0
  obtain ⟨x1, rfl, rfl, rfl, wf1⟩ := open_int Tryz.underlying23 (hval 1 23 v1 rfl rfl) h1
  clear hA0
  refine (apart_any x0 x1 W hE (bounds_u16 wf0) (bounds_u16 wf1)).mono fun e W' ⟨he, hb⟩ => ?_
  subst he
  exact ⟨_, rfl, post_true (tb := 4) laidOut hW' (by kernel_rfl) (by kernel_rfl) Tryz.underlying4 rfl rfl hb⟩

theorem reads (os : Os) {H : Type} (enc : TypeId × Value → H) : ∃ places, DataW.whole enc Tryz.prog ((seatWorld os).forCall (fun _ _ => 0) ⟨#[], #[.int .u16 0, .int .u16 0], []⟩).memory Tryz.f5.params.toList Rows.planeApartSpec.vars false (#[.int .u16 0, .int .u16 0] : Array Value).toList 8 = some ([.lit (.int .u16 0), .lit (.int .u16 0)], [], places) :=
  ⟨[], by kernel_rfl⟩

set_option maxRecDepth 100000 in
theorem lifted (os : Os) (started : os.Started) (H : Type) (enc : TypeId × Value → H) (F : Stop.Interp) :
    ReturnsInHanded {} Tryz.checked os 5 .any ((OpenSpec.ofChange Rows.planeApartSpec).preRow enc Tryz.prog Tryz.f5 Rows.planeApartRow.domain false Rows.planeApartRow.laid) (((OpenSpec.ofChange Rows.planeApartSpec).at F).post enc Tryz.prog Tryz.f5 false true false false) := by
  obtain ⟨places, hx⟩ := reads os enc
  refine returnsInHanded_of_row (C := Tryz.checked) (s := OpenSpec.ofChange Rows.planeApartSpec) own started (by kernel_rfl) Tryz.func5
    (witness_rowS (enc := enc) (C := Tryz.checked) false (seatWorld os) #[.int .u16 0, .int .u16 0] (World.laidAll_os _ _ _) (seat_shaped os _) (by as_aux_lemma => kernel_rfl)
      (OpenSpec.preRow_of_cond 8 hx (by as_aux_lemma => kernel_rfl) (fun k hk => by cases hk) (by as_aux_lemma => kernel_rfl) (seatWorld_met os _))) ?_
  intro W base args ds gs before hval hW _ _ _ hL hsh _
  exact contract H enc W base args ds gs before hval hW (env_of hsh hL)

end Go.Proofs.YtkbojechhmmkcaaGreatDoor.cPlaneApart
