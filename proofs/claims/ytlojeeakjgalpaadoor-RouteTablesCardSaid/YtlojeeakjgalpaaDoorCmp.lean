/- A walk: the one that compares two places by their rules' numbers (route.Rules's function). -/
import Derived.Test.YtlojeeakjgalpaaDoorRul
import Derived.Test.YtlojeeakjgalpaaDoorSta
namespace Go.Proofs.YtlojeeakjgalpaaDoor
open Go Go.RowKit Go.Sort Rte

theorem regrown_left {P : Program} {f : FuncId} {args : Array Value} {w : World} {d : Nat} {os : Array Obj} {v : Value} (h : Calls P f args (grow (redrawn w d) os) fun e w' => e = .returned v ∧ grow (redrawn w d) os = w') :
    Calls P f args (grow (redrawn w d) os) fun e w'' => e = .returned v ∧ ∃ p : Regrown, w'' = grow (redrawn w p.d) p.os := h.mono fun _ _ ⟨he, hm⟩ => ⟨he, ⟨d, os⟩, hm.symm⟩

set_option maxHeartbeats 1000000 in
set_option maxRecDepth 100000 in
theorem cmp_any (A : Option Addr) (cap : Nat) (L : List Ent) (h : ByteArray) (pb qb x y : Nat) (W : World) (hE : Env W) (hR : Rd W 4 A L.length (ents L)) (_hc : L.length ≤ 1000000000) (hx : x < L.length) (hy : y < L.length)
    (hp : W.cell? ⟨pb, 0, none⟩ = some (.slice A L.length cap)) (hq : W.cell? ⟨qb, 0, none⟩ = some (.string h)) (hs : ∀ e ∈ L, e.key.size ≤ 100000000 ∧ e.val.size ≤ 100000000) :
    Calls Tryd.prog 38 #[.int .i64 x, .int .i64 y, .pointer (some ⟨pb, 0, none⟩), .pointer (some ⟨qb, 0, none⟩)] W fun e w' => e = .returned (.int .i64 (cmpI (rule h L[x]) (rule h L[y]))) ∧ Below W.heap.size W w' := by
  obtain ⟨B, O, hA, hab, ax, x0, x1, x2, x3⟩ := hR.ent hx
  obtain ⟨B', O', hA', -, ay, y0, y1, y2, y3⟩ := hR.ent hy
  rw [hA] at hA'
  injection hA' with hA'
  injection hA' with hB hO
  subst hB hO hA
  have hr1 : ∀ m os, Calls Tryd.prog 36 #[.agg #[.string L[x].host, .int .i64 L[x].kind, .string L[x].key, .string L[x].val], .string h] (grow (redrawn W m) os) fun e w' => e = .returned (.int .i64 (rule h L[x])) ∧ ∃ p : Regrown, w' = grow (redrawn W p.d) p.os := fun m os =>
    Calls.regrown_of (rule_any L[x] h _ (hE.below (below_regrown W m os)) (hs _ (List.getElem_mem hx)).1 (hs _ (List.getElem_mem hx)).2)
  have hr2 : ∀ m os, Calls Tryd.prog 36 #[.agg #[.string L[y].host, .int .i64 L[y].kind, .string L[y].key, .string L[y].val], .string h] (grow (redrawn W m) os) fun e w' => e = .returned (.int .i64 (rule h L[y])) ∧ ∃ p : Regrown, w' = grow (redrawn W p.d) p.os := fun m os =>
    Calls.regrown_of (rule_any L[y] h _ (hE.below (below_regrown W m os)) (hs _ (List.getElem_mem hy)).1 (hs _ (List.getElem_mem hy)).2)
  have hcc : ∀ m os, Calls Tryd.prog 39 #[.int .i64 (rule h L[x]), .int .i64 (rule h L[y])] (grow (redrawn W m) os) fun e w' => e = .returned (.int .i64 (cmpI (rule h L[x]) (rule h L[y]))) ∧ ∃ p : Regrown, w' = grow (redrawn W p.d) p.os := fun m os =>
    regrown_left (compare_any _ _ _)
  have p0 := fun m os => cell_regrown hp m os
  have q0 := fun m os => cell_regrown hq m os
  have x0' := fun m os => cell_regrown x0 m os
  have x1' := fun m os => cell_regrown x1 m os
  have x2' := fun m os => cell_regrown x2 m os
  have x3' := fun m os => cell_regrown x3 m os
  have y0' := fun m os => cell_regrown y0 m os
  have y1' := fun m os => cell_regrown y1 m os
  have y2' := fun m os => cell_regrown y2 m os
  have y3' := fun m os => cell_regrown y3 m os
  clear hE hR hs x0 x1 x2 x3 y0 y1 y2 y3 hp hq
  generalize rule h L[x] = r1 at *
  generalize rule h L[y] = r2 at *
  generalize L[x] = e1 at *
  generalize L[y] = e2 at *
  go_enter Tryd.func38, Tryd.ntmps38
  go_wp2_with fail
  refine wp_region_quiet_below (by kernel_rfl) (by kernel_rfl) ?_
  repeat (go_big_quiet_step ((first | (go_at_call_of 36 (Value.agg #[Value.string e1.host, Value.int .i64 e1.kind, Value.string e1.key, Value.string e1.val]); exact hr1 _ _) | (go_at_call_of 36 (Value.agg #[Value.string e2.host, Value.int .i64 e2.kind, Value.string e2.key, Value.string e2.val]); exact hr2 _ _) | (go_at_call 39; exact hcc _ _))))
  refine wpQuiet_nil ?_
  intro _ hw'
  obtain ⟨⟨dq, osq⟩, hw''⟩ := hw'
  subst hw''
  go_wp2_with fail
  go_ret
  exact ⟨rfl, below_regrown W dq osq⟩
end Go.Proofs.YtlojeeakjgalpaaDoor
