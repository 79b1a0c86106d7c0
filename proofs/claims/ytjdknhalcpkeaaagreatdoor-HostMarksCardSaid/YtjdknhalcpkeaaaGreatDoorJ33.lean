/- Walks: slices.Compact of entries; host.Set. A walk: host.Set. Walks: the net's routes. -/
import Derived.Test.YtjdknhalcpkeaaaGreatDoorJ32
import Derived.Test.YtjdknhalcpkeaaaGreatDoorJ31
namespace Hst
open Go Rte
theorem compact_snoc : ∀ (M : List Ent) (a b : Ent), compactE (M ++ [a, b]) = compactE (M ++ [a]) ++ (if a = b then [] else [b])
 | [], a, b => by
   show (if a = b then compactE [b] else a :: compactE [b]) = [a] ++ _
   by_cases h : a = b
   · rw [if_pos h, if_pos h, h]; rfl
   · rw [if_neg h, if_neg h]; rfl
 | [x], a, b => by
   have ih := compact_snoc [] a b
   show (if x = a then compactE ([] ++ [a, b]) else x :: compactE ([] ++ [a, b])) = (if x = a then compactE [a] else x :: compactE [a]) ++ _
   rw [ih]
   by_cases h : x = a
   · rw [if_pos h, if_pos h]; rfl
   · rw [if_neg h, if_neg h]; rfl
 | x :: y :: M, a, b => by
   have ih := compact_snoc (y :: M) a b
   show (if x = y then compactE ((y :: M) ++ [a, b]) else x :: compactE ((y :: M) ++ [a, b])) = (if x = y then compactE ((y :: M) ++ [a]) else x :: compactE ((y :: M) ++ [a])) ++ _
   rw [ih]
   by_cases h : x = y
   · rw [if_pos h, if_pos h]
   · rw [if_neg h, if_neg h]; rfl
theorem compact_step {L : List Ent} {j : Nat} (h1 : 1 ≤ j) (h : j < L.length) : compactE (L.take (j + 1)) = compactE (L.take j) ++ (if L[j - 1] = L[j] then [] else [L[j]]) := by
 obtain ⟨k, rfl⟩ : ∃ k, j = k + 1 := ⟨j - 1, by omega⟩
 have e1 : L.take (k + 1) = L.take k ++ [L[k]] := List.take_succ_eq_append_getElem (by omega)
 have e2 : L.take (k + 1 + 1) = L.take k ++ [L[k], L[k + 1]] := by
  rw [List.take_succ_eq_append_getElem h, e1, List.append_assoc]; rfl
 rw [e2, e1, compact_snoc]
 rfl
theorem compact_one {L : List Ent} (h : 0 < L.length) : compactE (L.take 1) = [L[0]] := by
 rw [List.take_succ_eq_append_getElem h]; rfl
theorem compact_few {L : List Ent} (h : L.length < 2) : compactE L = L := by
 match L, h with
 | [], _ => rfl
 | [a], _ => rfl
def turnE (L : List Ent) (j : Nat) : List Ent := compactE (L.take j) ++ L.drop (compactE (L.take j)).length
theorem turn_len (L : List Ent) (j : Nat) : (turnE L j).length = L.length := by
 have := compact_len (L.take j)
 rw [List.length_take] at this
 unfold turnE
 rw [List.length_append, List.length_drop]; omega
theorem turn_at {L : List Ent} {j q : Nat} (h : (compactE (L.take j)).length ≤ q) (hq : q < L.length) : (turnE L j)[q]'(by rw [turn_len]; exact hq) = L[q] := by
 unfold turnE
 rw [List.getElem_append_right h, List.getElem_drop]
 congr 1; omega
theorem turn_skip {L : List Ent} {j : Nat} (h1 : 1 ≤ j) (h : j < L.length) (he : L[j - 1] = L[j]) : turnE L (j + 1) = turnE L j ∧ compactE (L.take (j + 1)) = compactE (L.take j) := by
 have := compact_step h1 h
 rw [if_pos he, List.append_nil] at this
 exact ⟨by unfold turnE; rw [this], this⟩
theorem turn_put {L : List Ent} {j : Nat} (h1 : 1 ≤ j) (h : j < L.length) (he : L[j - 1] ≠ L[j]) (hk : (compactE (L.take j)).length < j) :
 turnE L (j + 1) = (turnE L j).set (compactE (L.take j)).length L[j] ∧ (compactE (L.take (j + 1))).length = (compactE (L.take j)).length + 1 := by
 have e := compact_step h1 h
 rw [if_neg he] at e
 refine ⟨?_, by rw [e]; simp⟩
 unfold turnE
 rw [e, List.set_append_right _ _ (Nat.le_refl _), Nat.sub_self, List.length_append, List.length_singleton, List.append_assoc]
 congr 1
 conv => rhs; rw [List.drop_eq_getElem_cons (by omega : (compactE (L.take j)).length < L.length)]
 rfl
theorem turn_all (L : List Ent) : ∀ k, 1 ≤ k → k ≤ L.length → (∀ j (_ : 1 ≤ j) (_ : j < k) (hl : j < L.length), L[j - 1] ≠ L[j]) → compactE (L.take k) = L.take k
 | 0, h, _, _ => absurd h (by omega)
 | 1, _, hl, _ => by rw [compact_one (by omega), List.take_succ_eq_append_getElem (by omega)]; rfl
 | k + 2, _, hl, hj => by
   have ih := turn_all L (k + 1) (by omega) (by omega) fun j a b c => hj j a (by omega) c
   rw [compact_step (by omega) (by omega), ih, if_neg (hj (k + 1) (by omega) (by omega) (by omega)), ← List.take_succ_eq_append_getElem]
end Hst
namespace Go.Proofs.YtjdknhalcpkeaaaGreatDoor
open Go Go.RowKit Go.Sort Rte Sch Tre Hst
theorem run_clear_four (w : World) (t e ty : TypeId) (z : Value) (ht : Tryz.prog.underlying t = some (.slice e)) (hv : ∀ w, (zeroValue e).run Tryz.prog w = .ok z w) (_ : ∀ u ∈ z.cells, u.oneCell' = true) (b o n c : Nat) (hn : 0 < n)
 (hc : ∀ j, j < (Builtin.zeroCells z.cells n).toList.length → (w.cell? ⟨b, o + j, none⟩).isSome = true) (hf : ∀ j, j < (Builtin.zeroCells z.cells n).toList.length → w.frozen? ⟨b, o + j, none⟩ = false) (h1 : ∀ u ∈ (Builtin.zeroCells z.cells n).toList, u.oneCell' = true) :
 (Builtin.clear_ #[t] ty #[.slice (some ⟨b, o, none⟩) n c]).run Tryz.prog w = .ok (.tuple #[]) (w.setCells b o (Builtin.zeroCells z.cells n).toList) := by
 have hst := run_storeCells_cells (P := Tryz.prog) b o (Builtin.zeroCells z.cells n).toList 0 w (by simpa using hc) (by simpa using hf) h1
 simp only [Nat.add_zero] at hst
 obtain ⟨m, rfl⟩ : ∃ m, n = m + 1 := ⟨n - 1, by omega⟩
 simp [Builtin.clear_, run_underlying ht, hv, hst]
theorem zero_ent_val (w : World) : (zeroValue 35).run Tryz.prog w = .ok (.agg #[.string ⟨#[]⟩, .int .i64 0, .string ⟨#[]⟩, .string ⟨#[]⟩]) w := by
 obtain ⟨i0, hii, hz0, hz1, hz2⟩ := info_parts info_ent
 simp [zeroValue, typeInfo, hii, hz0]
theorem zeros_ent (n : Nat) : (Builtin.zeroCells (Value.agg #[.string ⟨#[]⟩, .int .i64 0, .string ⟨#[]⟩, .string ⟨#[]⟩]).cells n).toList.length = n * 4 ∧ ∀ u ∈ (Builtin.zeroCells (Value.agg #[.string ⟨#[]⟩, .int .i64 0, .string ⟨#[]⟩, .string ⟨#[]⟩]).cells n).toList, u.oneCell' = true := by
 refine ⟨by rw [Array.length_toList]; exact zero_ents n, fun u hu => ?_⟩
 have hz : (Value.agg #[.string ⟨#[]⟩, .int .i64 0, .string ⟨#[]⟩, .string ⟨#[]⟩]).cells = #[.string ⟨#[]⟩, .int .i64 0, .string ⟨#[]⟩, .string ⟨#[]⟩] := rfl
 rw [hz] at hu
 simp only [Builtin.zeroCells] at hu
 simp at hu
 obtain ⟨q, -, rfl⟩ := hu
 have : q % 4 = 0 ∨ q % 4 = 1 ∨ q % 4 = 2 ∨ q % 4 = 3 := by omega
 rcases this with h | h | h | h <;> simp [h, Value.oneCell']
theorem Kh.setCells {w0 : World} {g : Nat} : ∀ (vs : List Value) (o : Nat) {W : World}, Kh w0 g W → Kh w0 g (W.setCells g o vs)
 | [], _, _, h => h
 | v :: r, o, _, h => Kh.setCells r (o + 1) (h.set o v)
theorem size_setCells (b : Nat) : ∀ (vs : List Value) (o : Nat) (W : World), (W.setCells b o vs).heap.size = W.heap.size
 | [], _, _ => rfl
 | v :: r, o, W => by
   rw [World.setCells, size_setCells b r]; simp
def CompactEnd (w : World) (g c : Nat) (L : List Ent) (e : Ending) (w' : World) : Prop :=
 e = .returned (.slice (some ⟨g, 0, none⟩) (compactE L).length c) ∧ Rd w' 4 (some ⟨g, 0, none⟩) (compactE L).length (ents (compactE L)) ∧ Kh w g w'
set_option maxHeartbeats 4000000 in
set_option maxRecDepth 100000 in
theorem compact_own (g c : Nat) (L : List Ent) (w : World) (hR : Rw w g L w) (hl : L.length ≤ 10000000) (hc : L.length ≤ c) (hcm : c ≤ maxLen) :
 Calls Tryz.prog 38 #[.slice (some ⟨g, 0, none⟩) L.length c] w (CompactEnd w g c L) := by
 have hc63 : c ≤ 9223372036854775807 := by unfold maxLen at hcm; omega
 have HR := Lib.hid hR
 by_cases h2 : L.length < 2
 · have HE : Hid (compactE L = L) := compact_few h2
   clear hR
   go_enter Tryz.func38, Tryz.ntmps38
   go_wp2
   go_ret
   unfold CompactEnd
   rw [HE.out]
   exact ⟨rfl, HR.out.rd, Kh.refl _ _⟩
 · clear hR
   go_enter Tryz.func38, Tryz.ntmps38
   go_wp2
   go_loopw [3] (fun s3 wr => ∃ k : Nat, 1 ≤ k ∧ k ≤ L.length ∧ s3 = .int .i64 k ∧ Hid (Rw w g L wr) ∧ Hid (∀ j (_ : 1 ≤ j) (hk : j < k) (hl : j < L.length), L[j - 1] ≠ L[j])) (fun s3 _ => L.length - (intOf s3).toNat)
   case atStart => exact ⟨1, Nat.le_refl _, by omega, rfl, HR.out, fun j a b => absurd b (by omega)⟩
   case round =>
    obtain ⟨k, hk1, hk, rfl, HW, HA⟩ := hrel
    by_cases hlt : k < L.length
    · obtain ⟨x0, x1, x2, x3⟩ := HW.out.ent hlt
      obtain ⟨y0, y1, y2, y3⟩ := HW.out.ent (i := k - 1) (by omega)
      have hkk : (k : Int) - 1 = ((k - 1 : Nat) : Int) := by omega
      have hk0 : IntKind.i64.wrap ((k : Int) - 1) = ((k - 1 : Nat) : Int) := by rw [IntKind.wrap_i64]; omega
      obtain ⟨x, hx⟩ : ∃ x, L[k] = x := ⟨_, rfl⟩
      obtain ⟨y, hy⟩ : ∃ y, L[k - 1]'(by omega) = y := ⟨_, rfl⟩
      rw [hx] at x0 x1 x2 x3
      rw [hy] at y0 y1 y2 y3
      have HA2 : Hid (y ≠ x → ∀ j (_ : 1 ≤ j) (hk : j < k + 1) (hl : j < L.length), L[j - 1] ≠ L[j]) := fun hne j a b c => by
       by_cases e : j = k
       · subst e; rw [hx, hy]; exact hne
       · exact HA.out j a (by omega) c
      have HE0 : Hid (compactE (L.take k) = L.take k) := turn_all L k hk1 hk HA.out
      have HX := Lib.hid hx
      have HY := Lib.hid hy
      clear hx hy HA
      go_wp2_with fail
      refine wp_region_quiet_lit (by kernel_rfl) (by kernel_rfl) ?_
      repeat (go_big_quiet_step (fail))
      refine wpQuiet_step (fun K hK => ?_)
      go_simp
      simp only [ent_if]
      by_cases hxy : x = y
      · refine ⟨.bool true, fun a => by rw [if_pos hxy]; exact ⟨rfl, rfl⟩, hK _ ?_⟩
        clear hK K HA2
        refine wpQuiet_nil ?_
        intro _ hw'
        obtain ⟨nq, hw''⟩ := hw'
        subst hw''
        have HWq := Lib.hid (HW.out.below (below_drewN (Below.refl _ _) nq))
        have HTk : Hid (turnE L (k + 1) = L ∧ (compactE (L.take (k + 1))).length = k) := by
         have h1 := turn_skip (L := L) (j := k) hk1 hlt (by rw [HX.out, HY.out, hxy])
         refine ⟨?_, by rw [h1.2, HE0.out, List.length_take]; omega⟩
         rw [h1.1]
         unfold turnE
         rw [HE0.out, List.length_take, Nat.min_eq_left hk, List.take_append_drop]
        clear x0 x1 x2 x3 y0 y1 y2 y3 HE0 HX HY hxy HW
        go_wp2
        go_loopw [3, 5] (fun s3 s5 wr2 => ∃ k2 : Nat, 1 ≤ k2 ∧ k + k2 ≤ L.length ∧ s5 = .int .i64 k2 ∧ s3 = .int .i64 ((compactE (L.take (k + k2))).length : Nat) ∧ Hid (Rw w g (turnE L (k + k2)) wr2) ∧ (compactE (L.take (k + k2))).length < k + k2) (fun _ s5 _ => L.length - (intOf s5).toNat)
        case atStart => exact ⟨1, Nat.le_refl _, by omega, rfl, by rw [HTk.out.2], by show Rw _ _ _ _; rw [HTk.out.1]; exact HWq.out, by rw [HTk.out.2]; omega⟩
        case round =>
         clear HTk HWq
         obtain ⟨k2, hk21, hk2, rfl, rfl, HD, hkl⟩ := hrel
         have hkl2 : (compactE (L.take (k + k2))).length ≤ L.length := by omega
         by_cases hlt2 : k + k2 < L.length
         · have hDl := turn_len L (k + k2)
           obtain ⟨x0, x1, x2, x3⟩ := HD.out.ent (i := k + k2) (by rw [hDl]; exact hlt2)
           obtain ⟨y0, y1, y2, y3⟩ := HD.out.ent (i := k + k2 - 1) (by rw [hDl]; omega)
           rw [turn_at (by omega) hlt2, show (k + k2) * 4 = k * 4 + k2 * 4 by omega] at x0
           rw [turn_at (by omega) hlt2, show (k + k2) * 4 = k * 4 + k2 * 4 by omega] at x1 x2 x3
           rw [turn_at (by omega) (by omega), show (k + k2 - 1) * 4 = k * 4 + (k2 - 1) * 4 by omega] at y0
           rw [turn_at (by omega) (by omega), show (k + k2 - 1) * 4 = k * 4 + (k2 - 1) * 4 by omega] at y1 y2 y3
           obtain ⟨z0, z1, z2, z3⟩ := HD.out.ent (i := (compactE (L.take (k + k2))).length) (by rw [hDl]; omega)
           have hfr : ∀ r, r < 4 → wr.frozen? ⟨g, (compactE (L.take (k + k2))).length * 4 + r, none⟩ = false := fun r hr => by
            have hlt4 : (compactE (L.take (k + k2))).length * 4 + r < (ents (turnE L (k + k2))).length := by rw [ents_length, hDl]; omega
            exact (HD.out.holds _ _ (List.getElem?_eq_getElem hlt4)).2
           have f0 := hfr 0 (by omega)
           have f1 := hfr 1 (by omega)
           have f2 := hfr 2 (by omega)
           have f3 := hfr 3 (by omega)
           rw [Nat.add_zero] at f0
           have HSkip := Lib.hid (turn_skip (L := L) (j := k + k2) (by omega) hlt2)
           have HPut := Lib.hid (fun (he : L[k + k2 - 1]'(Nat.lt_of_le_of_lt (Nat.sub_le _ _) hlt2) ≠ L[k + k2]) => turn_put (L := L) (j := k + k2) (by omega) hlt2 he hkl)
           obtain ⟨x, hx⟩ : ∃ x, L[k + k2] = x := ⟨_, rfl⟩
           obtain ⟨y, hy⟩ : ∃ y, L[k + k2 - 1]'(by omega) = y := ⟨_, rfl⟩
           rw [hx] at x0 x1 x2 x3
           rw [hy] at y0 y1 y2 y3
           have HX := Lib.hid hx
           have HY := Lib.hid hy
           have hb0 : IntKind.i64.wrap ((k2 : Int) - 1) = ((k2 - 1 : Nat) : Int) := by rw [IntKind.wrap_i64]; omega
           have hb1 : (k2 : Int) - 1 = ((k2 - 1 : Nat) : Int) := by omega
           have hb2 : k2 - 1 < L.length - k := by omega
           have hb3 : k2 < L.length - k := by omega
           obtain ⟨ze, hze⟩ : ∃ ze, (turnE L (k + k2))[(compactE (L.take (k + k2))).length]'(by rw [hDl]; omega) = ze := ⟨_, rfl⟩
           rw [hze] at z0 z1 z2 z3
           clear hze
           obtain ⟨kk, hkk2⟩ : ∃ kk, (compactE (L.take (k + k2))).length = kk := ⟨_, rfl⟩
           rw [hkk2] at z0 z1 z2 z3 f0 f1 f2 f3 hkl hkl2 ⊢
           have HKK := Lib.hid hkk2
           clear hx hy hkk2 hfr
           go_wp2_with fail
           refine wp_region_quiet_lit (by kernel_rfl) (by kernel_rfl) ?_
           repeat (go_big_quiet_step (fail))
           refine wpQuiet_step (fun K hK => ?_)
           go_simp
           simp only [ent_if]
           by_cases hxy : x = y
           · refine ⟨.bool false, fun a => by rw [if_pos hxy]; exact ⟨rfl, rfl⟩, hK _ ?_⟩
             clear hK K
             refine wpQuiet_nil ?_
             intro _ hw'
             obtain ⟨nq, hw''⟩ := hw'
             subst hw''
             have hts := HSkip.out (by rw [HX.out, HY.out, hxy])
             have HDq : Hid (Rw w g (turnE L (k + (k2 + 1))) (wr.drewN nq)) := by
              show Rw _ _ _ _
              rw [← Nat.add_assoc, hts.1]
              exact HD.out.below (below_drewN (Below.refl _ _) nq)
             have HKK2 : Hid ((compactE (L.take (k + (k2 + 1)))).length = kk) := by show _ = _; rw [← Nat.add_assoc, hts.2, HKK.out]
             clear x0 x1 x2 x3 y0 y1 y2 y3 z0 z1 z2 z3 f0 f1 f2 f3 hts HSkip HPut HD HX HY hxy
             go_wp2
             go_roundw
             case rel => exact ⟨k2 + 1, by omega, by omega, by go_num, by rw [HKK2.out], HDq, by rw [HKK2.out]; omega⟩
             case measure => simp [intOf]; omega
           · refine ⟨.bool true, fun a => by rw [if_neg hxy]; exact ⟨rfl, rfl⟩, hK _ ?_⟩
             clear hK K
             refine wpQuiet_nil ?_
             intro _ hw'
             obtain ⟨nq, hw''⟩ := hw'
             subst hw''
             have hts := HPut.out (by rw [HX.out, HY.out]; exact fun e => hxy e.symm)
             have HDq : Hid (Rw w g (turnE L (k + (k2 + 1))) ((wr.drewN nq).setCells g (kk * 4) x.cells)) := by
              show Rw _ _ _ _
              rw [← Nat.add_assoc, hts.1, HX.out, HKK.out]
              exact (HD.out.below (below_drewN (Below.refl _ _) nq)).set (by rw [turn_len]; omega) x
             have HKK2 : Hid ((compactE (L.take (k + (k2 + 1)))).length = kk + 1) := by show _ = _; rw [← Nat.add_assoc, hts.2, HKK.out]
             clear y0 y1 y2 y3 hts HSkip HPut HD HX HY hxy
             go_wp2
             go_roundw
             case rel => exact ⟨k2 + 1, by omega, by omega, by go_num, by rw [HKK2.out]; go_num, HDq, by rw [HKK2.out]; omega⟩
             case measure => simp [intOf]; omega
         · have hend : k + k2 = L.length := by omega
           have hLt : L.take (k + k2) = L := by rw [hend, List.take_length]
           have HT : Hid (turnE L (k + k2) = compactE L ++ L.drop (compactE L).length) := by show _ = _; unfold turnE; rw [hLt]
           rw [hLt] at hkl hkl2 ⊢
           obtain ⟨kk, hkk2⟩ : ∃ kk, (compactE L).length = kk := ⟨_, rfl⟩
           have HKK := Lib.hid hkk2
           rw [hkk2] at hkl hkl2 ⊢
           have hDl := turn_len L (k + k2)
           have hzl := zeros_ent (L.length - kk)
           have hin : ∀ j, j < (Builtin.zeroCells (Value.agg #[.string ⟨#[]⟩, .int .i64 0, .string ⟨#[]⟩, .string ⟨#[]⟩]).cells (L.length - kk)).toList.length → kk * 4 + j < (ents (turnE L (k + k2))).length := fun j hj => by
            rw [hzl.1] at hj
            rw [ents_length, hDl]; omega
           have hcl : ∀ ty, (Builtin.clear_ #[25] ty #[.slice (some ⟨g, kk * 4, none⟩) (L.length - kk) (c - kk)]).run Tryz.prog wr = .ok (.tuple #[]) (wr.setCells g (kk * 4) (Builtin.zeroCells (Value.agg #[.string ⟨#[]⟩, .int .i64 0, .string ⟨#[]⟩, .string ⟨#[]⟩]).cells (L.length - kk)).toList) := fun ty =>
            run_clear_four wr 25 35 ty _ Tryz.underlying25 zero_ent_val (by simp [Value.cells]; decide) g (kk * 4) (L.length - kk) (c - kk) (by omega)
             (fun j hj => by rw [(HD.out.holds _ _ (List.getElem?_eq_getElem (hin j hj))).1]; rfl) (fun j hj => (HD.out.holds _ _ (List.getElem?_eq_getElem (hin j hj))).2) hzl.2
           obtain ⟨w9, hw9⟩ : ∃ w9, wr.setCells g (kk * 4) (Builtin.zeroCells (Value.agg #[.string ⟨#[]⟩, .int .i64 0, .string ⟨#[]⟩, .string ⟨#[]⟩]).cells (L.length - kk)).toList = w9 := ⟨_, rfl⟩
           rw [hw9] at hcl
           have HF : Hid (CompactEnd w g c L (.returned (.slice (some ⟨g, 0, none⟩) kk c)) w9) := by
            refine ⟨by rw [hkk2], ?_, by rw [← hw9]; exact Kh.setCells _ _ HD.out.kp⟩
            refine ⟨ents_length _, fun _ => ⟨_, rfl, ?_, fun j u hu => ?_⟩⟩
            · have h1 : w9.heap.size = wr.heap.size := by rw [← hw9]; exact size_setCells _ _ _ _
              rw [h1]
              exact Nat.lt_of_lt_of_le HR.out.lt HD.out.kp.size
            · have hj : j < (compactE L).length * 4 := by
               have := (List.getElem?_eq_some_iff.1 hu).1
               rwa [ents_length] at this
              rw [add_plain, Nat.zero_add, ← hw9, World.cell?_setCells_out _ _ _ _ _ (fun _ _ => Or.inl (by show j < kk * 4; omega))]
              refine (HD.out.holds j u ?_).1
              rw [HT.out, ents_append, List.getElem?_append_left (by rw [ents_length]; exact hj)]
              exact hu
           have hb5 : kk ≤ L.length := by omega
           have hb6 : ¬ (c = kk) := by omega
           clear hin hzl hDl HT hLt HD hw9 hkk2 hend
           go_wp2
           go_ret
           exact HF.out
      · refine ⟨.bool false, fun a => by rw [if_neg hxy]; exact ⟨rfl, rfl⟩, hK _ ?_⟩
        clear hK K
        refine wpQuiet_nil ?_
        intro _ hw'
        obtain ⟨nq, hw''⟩ := hw'
        subst hw''
        have HWq := Lib.hid (HW.out.below (below_drewN (Below.refl _ _) nq))
        have HA3 := Lib.hid (HA2.out (fun e => hxy e.symm))
        go_wp2
        go_roundw
        case rel => exact ⟨k + 1, by omega, by omega, by go_num, HWq, HA3⟩
        case measure => simp [intOf]; omega
    · have hke : k = L.length := by omega
      have HE : Hid (compactE L = L) := by
       have := turn_all L k hk1 hk HA.out
       rw [hke, List.take_length] at this
       exact this
      clear HA
      go_wp2
      go_ret
      unfold CompactEnd
      rw [HE.out]
      exact ⟨rfl, HW.out.rd, HW.out.kp⟩
end Go.Proofs.YtjdknhalcpkeaaaGreatDoor
namespace Go.Proofs.YtjdknhalcpkeaaaGreatDoor
open Go Go.RowKit Go.Sort Rte Sch Tre Hst
def EntsRd (w : World) (M : List Ent) (e : Ending) (w' : World) : Prop :=
 ∃ A c, e = .returned (.slice A M.length c) ∧ M.length ≤ c ∧ c ≤ maxLen ∧ Rd w' 4 A M.length (ents M) ∧ (A = none → c = 0) ∧ Below w.heap.size w w'
set_option maxHeartbeats 1000000 in
theorem compact_nil (w : World) : Calls Tryz.prog 38 #[.slice none 0 0] w fun e w' => e = .returned (.slice none 0 0) ∧ w' = w := by
 go_enter Tryz.func38, Tryz.ntmps38
 go_wp2
 go_ret
 exact ⟨rfl, rfl⟩
theorem sort_nil (fv : Value) (w : World) : Calls Tryz.prog 37 #[.slice none 0 0, fv] w fun e w' => e = .returned (.tuple #[]) ∧ w' = w :=
 AnyF.slices_SortFunc_none Tryz.sortE none 0 fv w
theorem Rw.anew {w0 W : World} {g : Nat} {L : List Ent} (h : Rw w0 g L W) : Rw W g L W := ⟨Kh.refl _ _, Nat.lt_of_lt_of_le h.lt h.kp.size, h.holds⟩
set_option maxHeartbeats 2000000 in
set_option maxRecDepth 100000 in
theorem set_any (A : Option Addr) (c : Nat) (M : List Ent) (w : World) (hR : Rd w 4 A M.length (ents M)) (hnil : A = none → c = 0) (hb : M.length ≤ 10000000) :
 Calls Tryz.prog 17 #[.slice A M.length c] w (EntsRd w (setE M)) := by
 have HC := Lib.hid (cloneEnts A c M w hR hnil hb)
 have HE := Lib.hid (compact_sort M)
 have HSL := sortE_len M
 have hcl := compact_len (sortE M)
 clear hR
 go_enter Tryz.func17, Tryz.ntmps17
 go_wp2_with fail
 refine HC.out.mono ?_
 unfold EntsEnd
 rintro e w1 ⟨⟨v, rfl, hv⟩, hb1⟩
 have HB1 := Lib.hid hb1
 rcases hv.2 with ⟨rfl, h0⟩ | ⟨g, cap, cur, rfl, hg, hh, hnc, hcm, hsz, ht⟩
 · obtain rfl := List.eq_nil_of_length_eq_zero h0
   clear hv hb1 h0 HC
   go_wp2_with fail
   refine (sort_nil _ w1).mono ?_
   rintro e w2 ⟨rfl, rfl⟩
   go_wp2_with fail
   refine (compact_nil _).mono ?_
   rintro e w3 ⟨rfl, rfl⟩
   go_wp2_with fail
   go_ret
   exact ⟨none, 0, rfl, Nat.le_refl _, by unfold maxLen; omega, Rd.nil, fun _ => rfl, HB1.out⟩
 · have HRw := Lib.hid (Rw.of_own hv)
   have HG := Lib.hid hg
   clear hv hb1 hh hsz ht HC hg
   go_wp2_with fail
   refine (sort_own g cap M w1 HRw.out hb).mono ?_
   rintro e w2 ⟨rfl, hr2⟩
   have HR2 := Lib.hid hr2
   clear hr2
   go_wp2_with fail
   have hcc := compact_own g cap (sortE M) w2 HR2.out.anew (by omega) (by omega) hcm
   rw [HSL] at hcc
   refine hcc.mono ?_
   unfold CompactEnd
   rw [HE.out]
   rintro e w3 ⟨rfl, hrd, hk⟩
   have HF : Hid (EntsRd w (setE M) (.returned (.slice (some ⟨g, 0, none⟩) (setE M).length cap)) w3) :=
    ⟨_, _, rfl, by have := setE_len M; omega, hcm, hrd, (fun h => by cases h), below_kh HB1.out (HR2.out.kp.trans hk) HG.out⟩
   clear hrd hk hcc
   go_wp2_with fail
   go_ret
   exact HF.out
end Go.Proofs.YtjdknhalcpkeaaaGreatDoor
namespace Go.Proofs.YtjdknhalcpkeaaaGreatDoor
open Go Go.RowKit Go.Sort Rte Sch Tre Hst
theorem map_succ {α β : Type} (f : α → β) (K : List α) {j : Nat} (hj : j < K.length) : (K.take (j + 1)).map f = (K.take j).map f ++ [f K[j]] := by
 rw [List.take_succ_eq_append_getElem hj, List.map_append, List.map_singleton]
set_option maxHeartbeats 1000000 in
set_option maxRecDepth 100000 in
theorem routes_any (A : Option Addr) (cap : Nat) (L : List Line) (S : List (List ByteArray)) (h : ByteArray) (w : World) (hN : NetK A cap L S w) :
 Calls Tryz.prog 31 #[netV A L.length cap, .string h] w (EntsEnd w (routesU S h)) := by
 obtain ⟨i0, hi, hz0, hz1, hz2⟩ := info_parts info_ent
 unfold netV
 have HU := Lib.hid hN.under
 have HO1 := Lib.hid hN.one
 have HA := Lib.hid hN.addr
 have hk1 := hN.few [wRoutes]
 have HSh := Lib.hid (fun P o (ho : o.size ≤ 40) => hN.oneShort o P ho)
 have HF : Hid (routesU S h = (kw S [wRoutes]).map (routeU S h)) := rfl
 have HRt : Hid (∀ p, routeU S h p = ⟨h, 4, p, spB (if viaU S p = h then wLocal else addrU S (viaU S p)) (oneU S wZero [wRoutes, p, wMetric])⟩) := fun _ => rfl
 have HVia : Hid (∀ p, viaU S p = oneU S emB [wRoutes, p, wVia]) := fun _ => rfl
 generalize routesU S h = R at *
 obtain ⟨w1, hw1⟩ : ∃ w1, w.alloc (.cells #[.slice A L.length cap] 59) = w1 := ⟨_, rfl⟩
 have HB1 : Hid (Below w.heap.size w w1) := by show Below _ _ _; rw [← hw1]; exact (Below.refl _ _).alloc (Nat.le_refl _) _
 obtain ⟨wb, hwb⟩ : ∃ wb, w.heap.size = wb := ⟨_, rfl⟩
 have X1 : Hid (Nc w1 wb A L.length cap) := by show Nc _ _ _ _ _; rw [← hw1, ← hwb]; exact heap_alloc_new w _
 have x0 := X1.out.cell
 clear hN
 generalize hK1 : kw S [wRoutes] = K1 at *
 have HK1 := Lib.hid hK1
 have HSucc := Lib.hid (fun (j : Nat) (hj : j < K1.length) => map_succ (routeU S h) K1 hj)
 clear hK1
 go_enter Tryz.func31, Tryz.ntmps31
 go_wp2_with (go_at_call 27; refine (HU.out [wRoutes] (by simp) (by simp) _ (HB1.out.alloc HB1.out.size _) _ (rd_words _ _ [wRoutes] rfl)).mono ?_; rw [HK1.out]; unfold StrsOwn; rintro e w2 ⟨⟨v2, rfl, hv2⟩, hb⟩; obtain ⟨A2, c2, rfl, hc1, hc2, -, -⟩ := own_rd_nil hv2; have HB2 := Lib.hid (below_step (HB1.out.alloc HB1.out.size _) hb); have HV1 := Lib.hid hv2; have X2 := Lib.hid ((X1.out.alloc _).below hb); clear hb hv2 x0 hw1 hwb)
 go_loopw [5, 15] (fun v vi wr => ∃ j : Nat, j ≤ K1.length ∧ vi = .int .i64 j ∧ Hid (wr.ownsRow w.heap.size 35 4 v ((K1.take j).map (routeU S h)).length (ents ((K1.take j).map (routeU S h)))) ∧ Hid (Below w.heap.size w wr) ∧ Hid (KeepT 35 w2 wr)) (fun _ vi _ => K1.length - (intOf vi).toNat)
 case atStart => exact ⟨0, Nat.zero_le _, rfl, World.ownsRow_nil _ _ _ _, HB2.out, KeepT.refl _ _⟩
 case round =>
  obtain ⟨j, hj, rfl, HO, HB, HK⟩ := hrel
  by_cases hlt : j < K1.length
  · obtain ⟨B, rfl, hadd, hx⟩ := own_word (HK.out.own (by decide) HV1.out) rfl hlt
    have Xr := Lib.hid (X2.out.keep HK.out (by decide))
    have xr := Xr.out.cell
    have hsj := HSucc.out j hlt
    have hl4 : ((K1.take j).map (routeU S h)).length + 1 ≤ 1000000000 := by rw [List.length_map, List.length_take]; omega
    generalize K1[j] = p at *
    rw [HRt.out p] at hsj
    have hvia := HVia.out p
    have ha40 : (addrU S (viaU S p)).size ≤ 40 := HSh.out _ emB (by decide)
    have hm40 := HSh.out [wRoutes, p, wMetric] wZero (by decide)
    generalize viaU S p = g at *
    generalize hm : oneU S wZero [wRoutes, p, wMetric] = m at *
    have HM := Lib.hid hm
    generalize hF : (K1.take j).map (routeU S h) = F at *
    have HVI := Lib.hid hvia
    clear hvia hm hF
    go_wp2_with fail
    refine (HO1.out emB [wRoutes, p, wVia] (by simp) (by simp) _ (HB.out.alloc HB.out.size _) _ (rd_words _ _ [wRoutes, p, wVia] rfl)).mono ?_
    rw [← HVI.out]
    rintro e w3 ⟨rfl, hb3⟩
    have HB3 := Lib.hid (below_step (HB.out.alloc HB.out.size _) hb3)
    have HO3 := Lib.hid (own_below (HO.out.alloc _) hb3)
    have HK3 := Lib.hid ((HK.out.alloc _).below hb3)
    have X3 := Lib.hid ((Xr.out.alloc _).below hb3)
    have x3 := X3.out.cell
    clear hb3 xr hx HO
    go_wp2_with fail
    refine (HA.out _ _ HB3.out).mono ?_
    rintro e w4 ⟨rfl, hb4⟩
    have HB4 := Lib.hid (below_step HB3.out hb4)
    have HO4 := Lib.hid (own_below HO3.out hb4)
    have HK4 := Lib.hid (HK3.out.below hb4)
    have x4 := (X3.out.below hb4).cell
    clear hb4 x3 HO3
    by_cases hgh : g = h
    · rw [if_pos hgh] at hsj
      have HSj := Lib.hid hsj
      subst hgh
      clear hsj
      go_wp2_with fail
      refine (HO1.out wZero [wRoutes, p, wMetric] (by simp) (by simp) _ (HB4.out.alloc HB4.out.size _) _ (rd_words _ _ [wRoutes, p, wMetric] rfl)).mono ?_
      rw [HM.out]
      rintro e w5 ⟨rfl, hb5⟩
      have HB5 := Lib.hid (below_step (HB4.out.alloc HB4.out.size _) hb5)
      have HO5 := Lib.hid (own_below (HO4.out.alloc _) hb5)
      have HK5 := Lib.hid ((HK4.out.alloc _).below hb5)
      clear hb5 x4 HO4
      go_wp2_with (at_builtin; refine app_typed rfl _ _ 25 rfl w _ 35 i0 _ 4 56 Tryz.underlying25 hi hz0 hz1 hz2 rfl (by decide) (by decide) HO5.out HB5.out rfl 1 1 (Ent.cells ⟨g, 4, p, spB wLocal m⟩) rfl rfl (Rte.cells_one _) hl4 ?_; intro v' w' hown' hb' hk')
      have HO6 := Lib.hid (own_push_ent hown')
      have HB6 := Lib.hid hb'
      have HK6 := Lib.hid (HK5.out.trans hk')
      clear hown' hb' hk'
      go_roundw
      case rel => exact ⟨j + 1, by omega, by go_num, by show World.ownsRow _ _ _ _ _ _ _; rw [HSj.out]; exact HO6.out, HB6, HK6⟩
      case measure => simp [intOf]; omega
    · rw [if_neg hgh] at hsj
      have HSj := Lib.hid hsj
      obtain ⟨q1, q2⟩ := ne_list hgh
      clear hsj
      go_wp2_with fail
      refine (HO1.out wZero [wRoutes, p, wMetric] (by simp) (by simp) _ (HB4.out.alloc HB4.out.size _) _ (rd_words _ _ [wRoutes, p, wMetric] rfl)).mono ?_
      rw [HM.out]
      rintro e w5 ⟨rfl, hb5⟩
      have HB5 := Lib.hid (below_step (HB4.out.alloc HB4.out.size _) hb5)
      have HO5 := Lib.hid (own_below (HO4.out.alloc _) hb5)
      have HK5 := Lib.hid ((HK4.out.alloc _).below hb5)
      clear hb5 x4 HO4
      go_wp2_with (at_builtin; refine app_typed rfl _ _ 25 rfl w _ 35 i0 _ 4 56 Tryz.underlying25 hi hz0 hz1 hz2 rfl (by decide) (by decide) HO5.out HB5.out rfl 1 1 (Ent.cells ⟨h, 4, p, spB (addrU S g) m⟩) rfl rfl (Rte.cells_one _) hl4 ?_; intro v' w' hown' hb' hk')
      have HO6 := Lib.hid (own_push_ent hown')
      have HB6 := Lib.hid hb'
      have HK6 := Lib.hid (HK5.out.trans hk')
      clear hown' hb' hk'
      go_roundw
      case rel => exact ⟨j + 1, by omega, by go_num, by show World.ownsRow _ _ _ _ _ _ _; rw [HSj.out]; exact HO6.out, HB6, HK6⟩
      case measure => simp [intOf]; omega
  · have hje : j = K1.length := by omega
    have HO7 := HO.out
    rw [hje, List.take_length, ← HF.out] at HO7
    have HO8 := Lib.hid HO7
    clear HO HO7
    go_wp2
    go_ret
    exact ⟨⟨_, rfl, HO8.out⟩, HB.out⟩
end Go.Proofs.YtjdknhalcpkeaaaGreatDoor
