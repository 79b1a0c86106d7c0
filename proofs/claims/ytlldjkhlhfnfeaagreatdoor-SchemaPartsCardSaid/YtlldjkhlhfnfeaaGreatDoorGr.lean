/- Plain: a tree made of its paths; trees with some paths less, or one more. Plain: a tree without faults has none without some of its parts. -/
import Derived.Test.YtlldjkhlhfnfeaaGreatDoorGm
import Derived.Test.YtlldjkhlhfnfeaaGreatDoorGo
namespace Sch
open Go Go.Lib Adr Mtr Tre
/-- The lines of paths, one by one. -/
def fitsL : List (List ByteArray) → List Line → Prop
  | [], [] => True
  | q :: S, l :: L => (soundB l = true ∧ l.depth = ((q.length - 1 : Nat) : Int) ∧ q.getLastD ⟨#[]⟩ = l.word) ∧ fitsL S L
  | [], _ :: _ => False
  | _ :: _, [] => False
theorem fitsL_len : ∀ {S : List (List ByteArray)} {L : List Line}, fitsL S L → S.length = L.length
  | [], [], _ => rfl
  | _ :: _, _ :: _, h => by rw [List.length_cons, List.length_cons, fitsL_len h.2]
  | [], _ :: _, h => h.elim
  | _ :: _, [], h => h.elim
theorem fitsL_app : ∀ {S T : List (List ByteArray)} {L M : List Line}, fitsL S L → fitsL T M → fitsL (S ++ T) (L ++ M)
  | [], _, [], _, _, k => k
  | _ :: _, _, _ :: _, _, h, k => ⟨h.1, fitsL_app h.2 k⟩
  | [], _, _ :: _, _, h, _ => h.elim
  | _ :: _, _, [], _, h, _ => h.elim
theorem fitsL_take : ∀ {S : List (List ByteArray)} {L : List Line} (n : Nat), fitsL S L → fitsL (S.take n) (L.take n)
  | [], [], n, _ => by simp [fitsL]
  | _ :: _, _ :: _, 0, _ => trivial
  | _ :: _, _ :: _, n + 1, h => ⟨h.1, fitsL_take n h.2⟩
  | [], _ :: _, _, h => h.elim
  | _ :: _, [], _, h => h.elim
theorem fitsL_drop : ∀ {S : List (List ByteArray)} {L : List Line} (n : Nat), fitsL S L → fitsL (S.drop n) (L.drop n)
  | [], [], n, _ => by simp [fitsL]
  | _ :: _, _ :: _, 0, h => h
  | _ :: _, _ :: _, n + 1, h => fitsL_drop n h.2
  | [], _ :: _, _, h => h.elim
  | _ :: _, [], _, h => h.elim
theorem drop_last_push (q : List ByteArray) (h : q ≠ []) : q.dropLast ++ [q.getLastD ⟨#[]⟩] = q := by
  rw [List.getLastD_eq_getLast?, List.getLast?_eq_some_getLast h]
  exact List.dropLast_concat_getLast h
theorem of_paths : ∀ {S : List (List ByteArray)} {L : List Line} {p : List ByteArray}, fitsL S L → (∀ q ∈ S, q ≠ [] ∧ pLt p q ∧ (q.dropLast ∈ S ∨ q.dropLast = p ∨ pLt q.dropLast p)) → S.Pairwise pLt →
    depFrom p L = true ∧ srtFrom p L = true ∧ pathsFrom p L = S
  | [], [], _, _, _, _ => ⟨rfl, rfl, rfl⟩
  | [], _ :: _, _, h, _, _ => h.elim
  | _ :: _, [], _, h, _, _ => h.elim
  | q :: S, l :: L, p, h, hq, hs => by
    obtain ⟨⟨h1, h2, h3⟩, hf⟩ := h
    obtain ⟨hs1, hs2⟩ := List.pairwise_cons.1 hs
    obtain ⟨hne, hpq, hpre⟩ := hq q (by simp)
    have hpush := drop_last_push q hne
    have hlt : pLt q.dropLast q := by
      have := pLt_push q.dropLast (q.getLastD ⟨#[]⟩) []
      rwa [hpush] at this
    have hpre2 : q.dropLast = p ∨ pLt q.dropLast p := by
      rcases hpre with h | h
      · rcases List.mem_cons.1 h with e | e
        · rw [e] at hlt; exact absurd hlt (pLt_irrefl _)
        · exact absurd (pLt_trans hlt (hs1 _ e)) (pLt_irrefl _)
      · exact h
    obtain ⟨s, hps⟩ : ∃ s, p = q.dropLast ++ s := by
      rcases hpre2 with e | e
      · exact ⟨[], by rw [e]; simp⟩
      · exact between e (.inl (by rw [hpush]; exact hpq))
    have hdl : q.dropLast.length = q.length - 1 := by simp
    have hdn : l.depth.toNat = q.dropLast.length := by rw [h2, hdl]; simp
    have hnxt : nxt p l = q := by
      unfold nxt
      rw [hdn, hps, List.take_left', ← h3, hpush]
      rfl
    have hle : l.depth ≤ (p.length : Int) := by
      rw [h2, ← hdl, hps, List.length_append]; omega
    have hsrt : srtOk p l = true := by
      unfold srtOk
      cases s with
      | nil =>
        rw [List.append_nil] at hps
        rw [decide_eq_true (p := l.depth = (p.length : Int)) (by rw [h2, ← hdl, hps])]; rfl
      | cons x s =>
        have hx : pLt (x :: s) [q.getLastD ⟨#[]⟩] := by
          rw [hps] at hpq
          conv at hpq => rhs; rw [← hpush]
          exact pLt_front.1 hpq
        have hxl : x.toList < l.word.toList := by
          rcases pLt_cons_iff.1 hx with h | ⟨-, h⟩
          · rw [h3] at h; exact h
          · exact absurd h (pLt_nil_not _)
        have hg : p.getD l.depth.toNat ⟨#[]⟩ = x := by
          rw [hdn, hps, List.getD_eq_getElem?_getD, List.getElem?_append_right (Nat.le_refl _)]; simp
        rw [hg, Proofs.bytesLess_eq, decide_eq_true hxl, Bool.or_true]
    have ih := of_paths (S := S) (L := L) (p := q) hf (fun x hx => by
      obtain ⟨a, b, c⟩ := hq x (List.mem_cons_of_mem _ hx)
      refine ⟨a, hs1 x hx, ?_⟩
      rcases c with c | c | c
      · rcases List.mem_cons.1 c with e | e
        · exact .inr (.inl e)
        · exact .inl e
      · exact .inr (.inr (by rw [c]; exact hpq))
      · exact .inr (.inr (pLt_trans c hpq))) hs2
    obtain ⟨i1, i2, i3⟩ := ih
    refine ⟨?_, ?_, ?_⟩
    · show (soundB l && decide (l.depth ≤ (p.length : Int)) && depFrom (nxt p l) L) = true
      rw [h1, decide_eq_true hle, hnxt, i1]; rfl
    · show (srtOk p l && srtFrom (nxt p l) L) = true
      rw [hsrt, hnxt, i2]; rfl
    · show nxt p l :: pathsFrom (nxt p l) L = q :: S
      rw [hnxt, i3]
/-- Paths of which each but the shortest ones is under another one, in order. -/
def treeS (S : List (List ByteArray)) : Prop := S.Pairwise pLt ∧ ∀ q ∈ S, q ≠ [] ∧ (q.dropLast ∈ S ∨ q.dropLast = [])
theorem nil_or (q : List ByteArray) : q = [] ∨ pLt [] q := by
  cases q with
  | nil => exact .inl rfl
  | cons a l => exact .inr (pLt_nil a l)
theorem of_tree {S : List (List ByteArray)} {L : List Line} (hf : fitsL S L) (hs : treeS S) (hl : L.length ≤ 200) : rightB L = true ∧ paths L = S := by
  obtain ⟨h1, h2, h3⟩ := of_paths (p := []) hf (fun q hq => by
    obtain ⟨a, b⟩ := hs.2 q hq
    refine ⟨a, ?_, ?_⟩
    · rcases nil_or q with e | e
      · exact absurd e a
      · exact e
    · rcases b with b | b
      · exact .inl b
      · exact .inr (.inl b)) hs.1
  exact ⟨by rw [right_steps, decide_eq_true hl, h1, h2]; rfl, h3⟩
theorem fits_from : ∀ {L : List Line} {p : List ByteArray}, depFrom p L = true → fitsL (pathsFrom p L) L
  | [], _, _ => trivial
  | l :: r, p, h => by
    have h : (soundB l && decide (l.depth ≤ (p.length : Int)) && depFrom (nxt p l) r) = true := h
    rw [Bool.and_eq_true, Bool.and_eq_true, decide_eq_true_eq] at h
    obtain ⟨⟨h1, h2⟩, h3⟩ := h
    have d := sound_depth h1
    have hn := nxt_len d.1 h2
    refine ⟨⟨h1, by omega, ?_⟩, fits_from h3⟩
    unfold nxt
    rw [List.getLastD_eq_getLast?, List.getLast?_append]; rfl
theorem tree_of {L : List Line} (hr : rightB L = true) : treeS (paths L) ∧ fitsL (paths L) L := by
  obtain ⟨-, hd, hs⟩ := right_parts hr
  refine ⟨⟨(pathsFrom_up hd hs).2, fun q hq => ?_⟩, fits_from hd⟩
  obtain ⟨i, hi, rfl⟩ := mem_paths.1 hq
  have hl := pa_len hd hi
  refine ⟨fun e => by rw [e] at hl; simp at hl, ?_⟩
  rcases Nat.lt_or_ge 1 (pa L i).length with h | h
  · left
    obtain ⟨m, hm, e⟩ := head_at hd hi (q := (pa L i).length - 1) (by omega) (by omega)
    rw [← List.dropLast_eq_take] at e
    exact mem_paths.2 ⟨m, by omega, e⟩
  · right
    have : (pa L i).length = 1 := by omega
    obtain ⟨a, e⟩ := List.length_eq_one_iff.1 this
    rw [e]; rfl
end Sch

namespace Sch
open Go Go.Lib Adr Mtr Tre
/-- The faults of a path, where what it looks at is alike. -/
theorem faults_same {S S' : List (List ByteArray)} {P : List ByteArray} (h1 : kw S' P = kw S P) (h2 : ∀ d, thereS S' wHosts d = thereS S wHosts d) (h3 : ∀ d, thereS S' wVnis d = thereS S wVnis d)
    (h4 : ∀ v, memB [wVnis, v, wSubnet] S' = memB [wVnis, v, wSubnet] S) (h5 : ∀ v, kw S' [wVnis, v, wSubnet] = kw S [wVnis, v, wSubnet]) (h6 : ∀ s, twS S' P s = twS S P s) : faultsS S' P = faultsS S P := by
  have ho : ∀ a b, outS S' a b = outS S a b := fun a b => by unfold outS; rw [h4, h5]
  have hm : ∀ p, meantS S' p P = meantS S p P := fun p => by unfold meantS; rw [h6, h2, h3, ho]
  unfold faultsS lineS
  cases ruleOf P with
  | none => rfl
  | some r =>
    show (if aliveP P = true then oneS (kw S' P) r P ++ missS (kw S' P) P ++ (if meantS S' r.path P = true then [(P, 7)] else []) else []) = (if aliveP P = true then oneS (kw S P) r P ++ missS (kw S P) P ++ (if meantS S r.path P = true then [(P, 7)] else []) else [])
    rw [h1, hm]
def keepP (P : List ByteArray) : Bool := !(decide (P.getD 0 noB = wPolicy)) && !(decide (P.getD 0 noB = wRoutes))
theorem keep_words {P Q : List ByteArray} (h : P.getD 0 noB = Q.getD 0 noB) : keepP P = keepP Q := by unfold keepP; rw [h]
theorem keep_app {P : List ByteArray} (h : P ≠ []) (s : List ByteArray) : keepP (P ++ s) = keepP P := by
  refine keep_words ?_
  cases P with
  | nil => exact absurd rfl h
  | cons a l => rfl
theorem keep_hosts (l : List ByteArray) : keepP (wHosts :: l) = true := by
  show (!(decide (wHosts = wPolicy)) && !(decide (wHosts = wRoutes))) = true
  decide +kernel
theorem keep_vnis (l : List ByteArray) : keepP (wVnis :: l) = true := by
  show (!(decide (wVnis = wPolicy)) && !(decide (wVnis = wRoutes))) = true
  decide +kernel
theorem kw_keep (S : List (List ByteArray)) {P : List ByteArray} (h : P ≠ []) (hk : keepP P = true) : kw (S.filter keepP) P = kw S P := by
  unfold kw
  rw [List.filter_filter]
  congr 1
  refine List.filter_congr fun q _ => ?_
  cases hq : isKid P q with
  | false => rfl
  | true =>
    obtain ⟨x, rfl⟩ := isKid_iff.1 hq
    rw [keep_app h, hk]; rfl
theorem mem_keep (S : List (List ByteArray)) {q : List ByteArray} (hk : keepP q = true) : memB q (S.filter keepP) = memB q S := by
  rw [Bool.eq_iff_iff, memB_iff, memB_iff, List.mem_filter]
  exact ⟨fun h => h.1, fun h => ⟨h, hk⟩⟩
theorem match_hosts {s : ByteArray} {Q : List ByteArray} (h : matchB [wHosts, tName, wIp, s] Q = true) : ∃ l, Q = wHosts :: l := by
  cases Q with
  | nil => cases h
  | cons a l =>
    rw [match_cons, Bool.and_eq_true, fits_wHosts, decide_eq_true_eq] at h
    exact ⟨l, by rw [h.1]⟩
theorem tw_keep (S : List (List ByteArray)) (P : List ByteArray) (s : ByteArray) : twS (S.filter keepP) P s = twS S P s := by
  unfold twS
  rw [List.any_filter]
  refine List.any_congr rfl fun Q => ?_
  cases hm : matchB [wHosts, tName, wIp, s] Q with
  | false => simp
  | true =>
    obtain ⟨l, rfl⟩ := match_hosts hm
    rw [keep_hosts]; simp
theorem less_faults (S : List (List ByteArray)) {P : List ByteArray} (h : P ≠ []) (hk : keepP P = true) : faultsS (S.filter keepP) P = faultsS S P :=
  faults_same (kw_keep S h hk) (fun d => mem_keep S (keep_hosts _)) (fun d => mem_keep S (keep_vnis _)) (fun v => mem_keep S (keep_vnis _)) (fun v => kw_keep S (by simp) (keep_vnis _)) (fun s => tw_keep S P s)
/-! The lines that stay. -/
def lessTo (L : List Line) (k : Nat) : List Line := ((((paths L).zip L).take k).filter fun x => keepP x.1).map Prod.snd
def lessL (L : List Line) : List Line := lessTo L L.length
theorem zip_get {L : List Line} {k : Nat} (h : k < L.length) : ∃ hz : k < ((paths L).zip L).length, ((paths L).zip L)[k] = (pa L k, L[k]) := by
  have hz : k < ((paths L).zip L).length := by rw [List.length_zip, paths_length]; omega
  exact ⟨hz, by rw [List.getElem_zip, pa_lt h]⟩
theorem less_succ {L : List Line} {k : Nat} (h : k < L.length) : lessTo L (k + 1) = lessTo L k ++ (if keepP (pa L k) then [L[k]] else []) := by
  obtain ⟨hz, e⟩ := zip_get h
  unfold lessTo
  rw [List.take_succ_eq_append_getElem hz, List.filter_append, List.map_append, e]
  cases hk : keepP (pa L k) <;> simp [hk]
theorem less_len (L : List Line) (k : Nat) : (lessTo L k).length ≤ k := by
  unfold lessTo
  rw [List.length_map]
  exact Nat.le_trans (List.length_filter_le _ _) (by rw [List.length_take]; omega)
theorem zip_filter (f : List ByteArray → Bool) : ∀ {S : List (List ByteArray)} {L : List Line}, fitsL S L → fitsL (S.filter f) (((S.zip L).filter fun x => f x.1).map Prod.snd)
  | [], [], _ => trivial
  | q :: S, l :: L, h => by
    rw [List.zip_cons_cons]
    cases hf : f q with
    | false =>
      rw [List.filter_cons_of_neg (by simp [hf]), List.filter_cons_of_neg (by simp [hf])]
      exact zip_filter f h.2
    | true =>
      rw [List.filter_cons_of_pos hf, List.filter_cons_of_pos (by simpa using hf), List.map_cons]
      exact ⟨h.1, zip_filter f h.2⟩
  | [], _ :: _, h => h.elim
  | _ :: _, [], h => h.elim
theorem less_right {L : List Line} (hr : rightB L = true) : rightB (lessL L) = true ∧ paths (lessL L) = (paths L).filter keepP := by
  obtain ⟨ht, hf⟩ := tree_of hr
  have hlen := (right_parts hr).1
  have e : lessL L = ((((paths L).zip L)).filter fun x => keepP x.1).map Prod.snd := by
    unfold lessL lessTo
    rw [List.take_of_length_le (by rw [List.length_zip, paths_length]; omega)]
  refine of_tree (by rw [e]; exact zip_filter keepP hf) ⟨List.Pairwise.filter _ ht.1, fun q hq => ?_⟩ (by have := less_len L L.length; unfold lessL; omega)
  obtain ⟨h1, h2⟩ := List.mem_filter.1 hq
  obtain ⟨h3, h4⟩ := ht.2 q h1
  refine ⟨h3, ?_⟩
  rcases h4 with h4 | h4
  · by_cases hd : q.dropLast = []
    · exact .inr hd
    · refine .inl (List.mem_filter.2 ⟨h4, ?_⟩)
      rw [← drop_last_push q h3, keep_app hd] at h2
      exact h2
  · exact .inr h4
theorem less_ok {L : List Line} (hr : rightB L = true) (h : checkB L = []) : checkB (lessL L) = [] := by
  obtain ⟨h1, h2⟩ := less_right hr
  rw [check_paths h1, h2]
  rw [check_paths hr] at h
  unfold checkS at h ⊢
  rw [List.flatMap_eq_nil_iff] at h ⊢
  intro P hP
  obtain ⟨hm, hk⟩ := List.mem_filter.1 hP
  rw [less_faults _ ((tree_of hr).1.2 P hm).1 hk]
  exact h P hm
end Sch
