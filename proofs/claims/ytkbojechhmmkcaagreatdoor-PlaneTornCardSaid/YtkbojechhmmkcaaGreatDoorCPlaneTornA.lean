/- The card of PlaneTorn: for every input the law returns true and turns nothing; the listed variables of the library as the program's text lays them. No condition of its own. -/
import Derived.Test.YtkbojechhmmkcaaGreatDoorK46
import Derived.Test.YtkbojechhmmkcaaGreatDoorK57
namespace Go.Proofs.YtkbojechhmmkcaaGreatDoor.cPlaneTorn
open Go Go.ChangeShapes Go.WideShapes Go.ChangeAt Go.RowKit
open Go.ChangeMaps (open_string)
open Go.Proofs.Zq

set_option maxRecDepth 100000 in
theorem contract (H : Type) (enc : TypeId × Value → H) (W : World) (base : Nat) (args : Array Value) (ds gs : List (DataW H)) (before : List MemPlace)
    (hval : ∀ (j : Nat) t v, Tryz.f6.params[j]? = some t → args[j]? = some v → Value.okWide Tryz.prog W .any base t v)
    (hW : DataW.Whole enc Tryz.prog Tryz.f6.params.toList Rows.planeTornSpec.vars false W args.toList ds gs before) (hE : Env W) :
    Calls Tryz.prog 6 args W fun e W' => ∃ v, e = .returned v ∧ Rows.planeTornSpec.post enc Tryz.prog Tryz.f6 false true false false W args v W' := by
  have hW' := hW
  obtain ⟨p, q, hA0, hV, rfl, _, _⟩ := hW
  have hA : DataW.TrodAll enc Tryz.prog W 0 (fun _ => true) true Tryz.f6.params.toList args.toList ds p := hA0
  obtain ⟨rfl, rfl⟩ := trodVars_none hV
  rw [Tryz.params6] at hA hval
  obtain ⟨v0, vs0, d0, ds0, p0, q0, hargs, rfl, rfl, h0, r0⟩ := trodAll_cons hA
  obtain ⟨rfl, rfl, rfl⟩ := trodAll_nil r0
  obtain rfl : args = #[v0] := by cases args; simp_all
  obtain ⟨x0, rfl, rfl, rfl, wf0⟩ := open_int Tryz.underlying23 (hval 0 23 v0 rfl rfl) h0
  clear hA0
  refine (torn_any x0 W hE (bounds_u16 wf0)).mono fun e W' ⟨he, hb⟩ => ?_
  subst he
  exact ⟨_, rfl, post_true (tb := 4) laidOut hW' (by kernel_rfl) (by kernel_rfl) Tryz.underlying4 rfl rfl hb⟩

theorem reads (os : Os) {H : Type} (enc : TypeId × Value → H) : ∃ places, DataW.whole enc Tryz.prog ((seatWorld os).forCall (fun _ _ => 0) ⟨#[], #[.int .u16 0], []⟩).memory Tryz.f6.params.toList Rows.planeTornSpec.vars false (#[.int .u16 0] : Array Value).toList 8 = some ([.lit (.int .u16 0)], [], places) :=
  ⟨[], by kernel_rfl⟩

set_option maxRecDepth 100000 in
theorem lifted (os : Os) (started : os.Started) (H : Type) (enc : TypeId × Value → H) (F : Stop.Interp) :
    ReturnsInHanded {} Tryz.checked os 6 .any ((OpenSpec.ofChange Rows.planeTornSpec).preRow enc Tryz.prog Tryz.f6 Rows.planeTornRow.domain false Rows.planeTornRow.laid) (((OpenSpec.ofChange Rows.planeTornSpec).at F).post enc Tryz.prog Tryz.f6 false true false false) := by
  obtain ⟨places, hx⟩ := reads os enc
  refine returnsInHanded_of_row (C := Tryz.checked) (s := OpenSpec.ofChange Rows.planeTornSpec) own started (by kernel_rfl) Tryz.func6
    (witness_rowS (enc := enc) (C := Tryz.checked) false (seatWorld os) #[.int .u16 0] (World.laidAll_os _ _ _) (seat_shaped os _) (by as_aux_lemma => kernel_rfl)
      (OpenSpec.preRow_of_cond 8 hx (by as_aux_lemma => kernel_rfl) (fun k hk => by cases hk) (by as_aux_lemma => kernel_rfl) (seatWorld_met os _))) ?_
  intro W base args ds gs before hval hW _ _ _ hL hsh _
  exact contract H enc W base args ds gs before hval hW (env_of hsh hL)

end Go.Proofs.YtkbojechhmmkcaaGreatDoor.cPlaneTorn
