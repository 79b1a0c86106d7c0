/- A laid table of pairs of numbers: the cells of one row. From a walk's contract to a given statement: what every law of this seat needs for its row and its card. -/
import Derived.OpenShut
import Derived.ChangeArms
import Derived.Test.YtmhgacgneckboaaGreatDoorCards
import Derived.Test.YtmhgacgneckboaaGreatDoorTie
import Derived.ProofKit
import Derived.Carry
import Derived.Lay
import Derived.MakeChecks
import Derived.Deep.DeepHandedRow
import Derived.Deep.DeepWitnessRowRef
import Derived.Lib.LaidTab
import Derived.Stop.LaidErr
import Derived.SevenTiedAt
import Derived.Shelf.Vars
import Derived.Test.YtmhgacgneckboaaGreatDoorQg
namespace Go.Proofs.YtmhgacgneckboaaGreatDoor
open Go Go.ChangeShapes
theorem pair_cells {H : Type} {enc : TypeId × Value → H} {P : Program} {w : World} {base : Nat} {sp : Nat → Bool} {held : Bool} {fuel : Nat} {t e : TypeId} {n : Nat} {f0 f1 : Field} {cs : List Value} {rows : List (DataW H)} {p : List MemPlace} {i : Nat} {a b : Int}
    (ht : P.underlying t = some (.array n e)) (he : P.underlying e = some (.struct #[f0, f1])) (hce : P.cellsOf e = 2) (o0 : f0.offset = 0) (o1 : f1.offset = 1) (c0 : P.cellsOf f0.type = 1) (c1 : P.cellsOf f1.type = 1)
    (u0 : P.underlying f0.type = some (.int .u64)) (u1 : P.underlying f1.type = some (.int .u64)) (hi : i < n) (hr : rows[i]? = some (.agg [.lit (.int .u64 a), .lit (.int .u64 b)]))
    (h : DataW.trod enc P w base sp held fuel t cs = some (.agg rows, p)) : cs[2 * i]? = some (.int .u64 a) ∧ cs[2 * i + 1]? = some (.int .u64 b) := by
  obtain ⟨xs, m, -, hx, hl, hxl, hat⟩ := DataW.trod_array ht h
  have hrows : rows = xs.map (·.1) := by injection hx with h1 h2; injection h1
  have hi2 := hat i hi
  rw [hce] at hi2
  rw [List.getElem?_eq_getElem (by omega)] at hi2
  obtain ⟨ys, k, -, hy, hyl, hyl2, hf⟩ := DataW.trod_struct he hi2
  have hxi : (xs[i]'(by omega)).1 = .agg [.lit (.int .u64 a), .lit (.int .u64 b)] := by
    rw [hrows, List.getElem?_map, List.getElem?_eq_getElem (by omega)] at hr
    injection hr
  rw [hy] at hxi
  have hys : ys.map (·.1) = [.lit (.int .u64 a), .lit (.int .u64 b)] := by injection hxi
  have g0 := hf 0 f0 rfl
  have g1 := hf 1 f1 rfl
  have hl2 : ys.length = 2 := hyl2
  rw [o0, c0, List.getElem?_eq_getElem (by omega)] at g0
  rw [o1, c1, List.getElem?_eq_getElem (by omega)] at g1
  obtain ⟨z0, e0, x0, -⟩ := DataW.trod_int u0 g0
  obtain ⟨z1, e1, x1, -⟩ := DataW.trod_int u1 g1
  have v0 : z0 = a := by
    have h1 := congrArg (·[0]?) hys
    simp only [List.getElem?_map, List.getElem?_cons_zero] at h1
    rw [List.getElem?_eq_getElem (by omega)] at h1
    simp only [Option.map_some, Option.some.injEq] at h1
    rw [x0] at h1
    injection h1 with h1; injection h1
  have v1 : z1 = b := by
    have h1 := congrArg (·[1]?) hys
    simp only [List.getElem?_map, List.getElem?_cons_succ, List.getElem?_cons_zero] at h1
    rw [List.getElem?_eq_getElem (by omega)] at h1
    simp only [Option.map_some, Option.some.injEq] at h1
    rw [x1] at h1
    injection h1 with h1; injection h1
  rw [v0] at e0
  rw [v1] at e1
  have k0 := congrArg (·[0]?) e0
  have k1 := congrArg (·[0]?) e1
  simp only [List.getElem?_take, List.getElem?_drop, List.getElem?_cons_zero] at k0 k1
  constructor
  · rw [show 2 * i = i * 2 + 0 by omega]; simpa using k0
  · rw [show 2 * i + 1 = i * 2 + 1 by omega]; simpa using k1
end Go.Proofs.YtmhgacgneckboaaGreatDoor

namespace Go.Proofs.YtmhgacgneckboaaGreatDoor
open Go Go.ChangeShapes Go.WideShapes Go.ChangeAt Go.RowKit

section
variable {H : Type} {enc : TypeId × Value → H} {P : Program} {W W' : World}
/-- Arguments read behind the call as they read before, where nothing that was there has turned. -/
theorem args_stay (hl : laidOutB P = true) (hb : Below W.heap.size W W') : ∀ (ts : List TypeId) (vs : List Value) (ds : List (DataW H)) (ps : List MemPlace),
    ts.all (fun t => P.readableRec t && decide (t < P.types.size)) = true → (∀ x ∈ ps, x.block < W.heap.size) → DataW.TrodAll enc P W 0 (fun _ => true) true ts vs ds ps →
    DataW.TrodAll enc P W' 0 (fun b => decide (b < W.heap.size)) true ts vs ds ps
  | [], vs, ds, ps, _, _, h => by
    obtain ⟨rfl, rfl, rfl⟩ := trodAll_nil h
    exact trodAll_mk0
  | t :: ts, vs, ds, ps, ht, hlt, h => by
    obtain ⟨v, vs', d, ds', p, q, rfl, rfl, rfl, h0, h1⟩ := trodAll_cons h
    simp only [List.all_cons, Bool.and_eq_true, decide_eq_true_eq] at ht
    exact trodAll_cons_mk (Below.trod hl ht.1.1 ht.1.2 h0 hb fun x hx => hlt x (List.mem_append_left _ hx))
      (args_stay hl hb ts vs' ds' q (by simpa using ht.2) (fun x hx => hlt x (List.mem_append_right _ hx)) h1)
/-- A law's post: it returned true, and nothing that was there has turned. -/
theorem post_true {f : Func} {s : ChangeSpec} {args : Array Value} {ds gs : List (DataW H)} {before : List MemPlace} {tb : TypeId} (hl : laidOutB P = true)
    (hW : DataW.Whole enc P f.params.toList s.vars false W args.toList ds gs before)
    (hro : f.params.toList.all (fun t => P.readableRec t && decide (t < P.types.size)) = true)
    (hres : f.resultTypes = #[tb]) (htb : P.underlying tb = some .bool) (hsv : s.vars = [])
    (hs : s.fn H (ds ++ gs) = { results := [.lit (.bool true)], args := ds }) (hb : Below W.heap.size W W') : s.post enc P f false true false false W args (.bool true) W' := by
  have hW' := hW
  have hlt : ∀ p ∈ before, p.block < W.heap.size := fun p hp => hW.lt p hp
  obtain ⟨p, q, hA, hV, rfl, _, _⟩ := hW
  rw [hsv] at hV
  obtain ⟨rfl, rfl⟩ := trodVars_none hV
  have hA' := args_stay hl hb _ _ _ _ hro (fun x hx => hlt x (by simpa using hx)) hA
  refine ⟨ds, [], p ++ [], [], p, [], hW', ?_, ?_, ?_, ?_, fun h => by cases h⟩
  · rw [hs, hres]; exact trodAll_mk1 (shut_bool htb true)
  · rw [hs]; exact hA'
  · rw [hs, hsv]; rfl
  · exact hb.frame _
end

theorem own : ownKnob Tryz.prog.godebug = none := by kernel_rfl
theorem laidOut : laidOutB Tryz.prog = true := by kernel_rfl
/-- The rows' list: one for all laws of this seat. -/
abbrev seatLaid : List (String × DataW Unit) := Rows.metricRanksRow.laid
theorem seat_plain (W : World) : laidMetH Tryz.prog seatLaid W = laidMet Tryz.prog seatLaid W := MakeChecks.laidMetH_plain _ _ _ (by kernel_rfl)
theorem gMax : Tryz.prog.globalNamed "internal/bytealg.MaxLen" = some 2 := by kernel_rfl
theorem gRange : Tryz.prog.globalNamed "strconv.ErrRange" = some 4 := by kernel_rfl
theorem gSyntax : Tryz.prog.globalNamed "strconv.ErrSyntax" = some 3 := by kernel_rfl
theorem gRangeType : (Tryz.prog.globals[4]?).map (·.type) = some 56 := by kernel_rfl
theorem gSyntaxType : (Tryz.prog.globals[3]?).map (·.type) = some 56 := by kernel_rfl
theorem gPowType : (Tryz.prog.globals[5]?).map (·.type) = some 146 := by kernel_rfl
theorem cellsPow : Tryz.prog.cellsOf 146 = 20 := by kernel_rfl
theorem cellsU64 : Tryz.prog.cellsOf 41 = 1 := by kernel_rfl
theorem cellsErr : Tryz.prog.cellsOf 154 = 1 := by kernel_rfl
theorem cellsStr : Tryz.prog.cellsOf 9 = 1 := by kernel_rfl
theorem errStar : "*" ++ "errors.errorString" = "*errors.errorString" := by decide
theorem errNames (u : TypeId) (h : Tryz.prog.typeName? 3 u = some "*errors.errorString") : u = 152 :=
  typeName_ptr_named (nm := "errors.errorString") (by rw [errStar]; kernel_rfl) (by kernel_rfl) (by decide) u (by rw [errStar]; exact h)
theorem gOpt : Tryz.prog.globalNamed "internal/strconv.optimize" = some 1 := by kernel_rfl
theorem gTab : Tryz.prog.globalNamed "internal/strconv.pow10Tab" = some 8 := by kernel_rfl
theorem env0_of {W : World} (hsh : W.ShapedOpen Tryz.prog) (hL : laidMetH Tryz.prog seatLaid W) : Env W := by
  rw [seat_plain] at hL
  have hp := Lib.tabIs_of_head (zs := Lib.pow10Tab) gPow gPowType Tryz.underlying146 Tryz.underlying41 cellsU64 cellsPow hL.tail.tail.tail
  obtain ⟨a1, s1, hv1, _⟩ := laid_sentinel hL.tail.tail.tail.tail.tail gRange gRangeType Tryz.underlying56 errNames Tryz.underlying152 Tryz.underlying154 rfl rfl Tryz.underlying9 cellsErr cellsStr
  obtain ⟨a2, s2, hv2, _⟩ := laid_sentinel hL.tail.tail.tail.tail.tail.tail gSyntax gSyntaxType Tryz.underlying56 errNames Tryz.underlying152 Tryz.underlying154 rfl rfl Tryz.underlying9 cellsErr cellsStr
  exact ⟨cell_of_shapedOpen_int (zero := #[.int .i64 0]) (t := 3) hsh (of_decide_eq_true (by kernel_rfl)) (by kernel_rfl) rfl (by kernel_rfl) (by kernel_rfl) Tryz.underlying3,
    ⟨_, _, by simpa using World.var?_cell gSyntax hv2 0⟩, ⟨_, _, by simpa using World.var?_cell gRange hv1 0⟩, hp⟩
theorem env_of {W : World} (hsh : W.ShapedOpen Tryz.prog) (hL : laidMetH Tryz.prog seatLaid W) : EnvF W := by
  have hE := env0_of hsh hL
  rw [seat_plain] at hL
  have h2 := hL.tail.tail
  have h8 := hL.tail.tail.tail.tail.tail.tail.tail.tail
  obtain ⟨ps, ⟨g', t', cs, fuel, p, q, hg', ht', hvar, hd, _, _⟩, _⟩ := h2
  obtain ⟨ps8, ⟨g8, t8, cs8, fuel8, p8, q8, hg8, ht8, hvar8, hd8, _, _⟩, _⟩ := h8
  clear hL
  obtain rfl := Option.some.inj (gOpt.symm.trans hg')
  obtain rfl := Option.some.inj (gTab.symm.trans hg8)
  have ho : W.cell? ⟨1, 0, none⟩ = some (.bool true) := by
    have ht'' : Tryz.prog.underlying t' = some .bool := by
      obtain rfl : t' = 4 := Option.some.inj (ht'.symm.trans (by kernel_rfl))
      exact Tryz.underlying4
    obtain ⟨b, hb, hx⟩ := DataW.trod_bool ht'' hd
    have hb2 : b = true := by
      have := congrArg Prod.fst hx
      unfold Rows.laid_internal_strconv_optimize at this
      simpa using this.symm
    have := World.var?_cell gOpt hvar 0
    rw [hb2] at hb
    rw [this, ← Array.getElem?_toList, hb]; rfl
  obtain ⟨rows, hrows⟩ : ∃ rows, Rows.laid_internal_strconv_pow10Tab = .agg rows := ⟨_, rfl⟩
  have r3 : rows[351]? = some (.agg [.lit (.int .u64 18014398509481984000), .lit (.int .u64 0)]) := by
    have : (match Rows.laid_internal_strconv_pow10Tab with | .agg r => r | _ => [])[351]? = some (.agg [.lit (.int .u64 18014398509481984000), .lit (.int .u64 0)]) := by kernel_rfl
    rw [hrows] at this; exact this
  have r4 : rows[352]? = some (.agg [.lit (.int .u64 11258999068426240000), .lit (.int .u64 0)]) := by
    have : (match Rows.laid_internal_strconv_pow10Tab with | .agg r => r | _ => [])[352]? = some (.agg [.lit (.int .u64 11258999068426240000), .lit (.int .u64 0)]) := by kernel_rfl
    rw [hrows] at this; exact this
  rw [hrows] at hd8
  obtain rfl : t8 = 164 := Option.some.inj (ht8.symm.trans (by kernel_rfl))
  have k3 := pair_cells (i := 351) Tryz.underlying164 Tryz.underlying163 (by kernel_rfl) rfl rfl (by kernel_rfl) (by kernel_rfl) Tryz.underlying41 Tryz.underlying41 (by decide) r3 hd8
  have k4 := pair_cells (i := 352) Tryz.underlying164 Tryz.underlying163 (by kernel_rfl) rfl rfl (by kernel_rfl) (by kernel_rfl) Tryz.underlying41 Tryz.underlying41 (by decide) r4 hd8
  exact ⟨hE, ho, by rw [World.var?_cell gTab hvar8 702, ← Array.getElem?_toList]; exact k3.1, by rw [World.var?_cell gTab hvar8 703, ← Array.getElem?_toList]; exact k3.2, by rw [World.var?_cell gTab hvar8 704, ← Array.getElem?_toList]; exact k4.1, by rw [World.var?_cell gTab hvar8 705, ← Array.getElem?_toList]; exact k4.2⟩

/-- The world of the witness: all listed variables laid. -/
noncomputable def seatWorld (os : Os) : World := World.laidAll Tryz.prog os seatLaid
theorem seatWorld_met (os : Os) (args : Array Value) : laidMetH Tryz.prog seatLaid ((seatWorld os).forCall (fun _ _ => 0) ⟨#[], args, []⟩).memory := by
  rw [seat_plain]
  exact laidMet_laidAll _ (by kernel_rfl) (by kernel_rfl)
theorem seat_shaped (os : Os) (args : Array Value) : ((seatWorld os).forCall (fun _ _ => 0) ⟨#[], args, []⟩).Shaped Tryz.prog := World.shaped_of_ZipB (by kernel_rfl) (by kernel_rfl)
/-- The witness, where the world's shape is known by one pass. -/
theorem witness_rowS {H : Type} {enc : TypeId × Value → H} {C : Checked} {os : Os} {f : FuncId} {fn : Func} {s : OpenSpec} {conds : List PathCond} {apart : Bool} {laid : List (String × DataW Unit)} (modest : Bool) (w0 : World) (args : Array Value) (hos : w0.os = os)
    (hsh : (w0.forCall (fun _ _ => 0) ⟨#[], args, []⟩).Shaped C.prog)
    (hok : Input.okWideB C.prog (w0.forCall (fun _ _ => 0) ⟨#[], args, []⟩) f ⟨#[], args, []⟩ = true)
    (hrow : s.preRow enc C.prog fn conds apart laid (w0.forCall (fun _ _ => 0) ⟨#[], args, []⟩).memory args) :
    ∃ (w : World) (tape : Tape) (i : Input), w.os = os ∧ (w.forCall tape i).Shaped C.prog ∧ i.vars = [] ∧ Input.okWide C.prog (w.forCall tape i) .any w.heap.size f i ∧
      s.preRow enc C.prog fn conds apart laid (w.forCall tape i).memory i.args ∧ ({ modest := modest } : Assume).holds C.prog (lone (Frame.enter C.prog f i.args .normal) [] (w.forCall tape i)) :=
  ⟨w0, fun _ _ => 0, ⟨#[], args, []⟩, hos, hsh, (Input.okWide_of_okWideB (base := 0) hok).1, (Input.okWide_of_okWideB hok).2, hrow, by
    simp only [Assume.holds]
    exact ⟨by simp, by simp, fun _ => Modest.zero, by simp, by simp⟩⟩
theorem float_lt {b : Nat} (h : (Lit.float .f64 b).wf = true) : b < 18446744073709551616 := by
  simpa [Lit.wf] using h
end Go.Proofs.YtmhgacgneckboaaGreatDoor
