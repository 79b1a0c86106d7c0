/- A walk: tree.Kids. A walk: tree.Find. -/
import Derived.Test.YtjdknhalcpkeaaaGreatDoorJ04
namespace Tre
open Go
def kidsTo (L : List Line) (D : Int) (a k : Nat) : List Nat := (List.range k).filter fun i => decide (a ≤ i) && decide (depthAt L i = D)
theorem kidsTo_low (L : List Line) (D : Int) (a : Nat) : kidsTo L D a a = [] := by
 unfold kidsTo
 rw [List.filter_eq_nil_iff]
 intro i hi
 have : i < a := by simpa using hi
 simp; omega
theorem kidsTo_succ (L : List Line) (D : Int) (a k : Nat) (h : a ≤ k) : kidsTo L D a (k + 1) = if depthAt L k = D then kidsTo L D a k ++ [k] else kidsTo L D a k := by
 unfold kidsTo
 rw [List.range_succ, List.filter_append]
 by_cases hk : depthAt L k = D
 · rw [if_pos hk]; congr 1; simp [hk, h]
 · rw [if_neg hk]; simp [hk]
theorem kidsTo_len (L : List Line) (D : Int) (a k : Nat) : (kidsTo L D a k).length ≤ k := by
 unfold kidsTo; exact Nat.le_trans (List.length_filter_le _ _) (by simp)
theorem mem_kidsTo {L : List Line} {D : Int} {a k i : Nat} : i ∈ kidsTo L D a k ↔ i < k ∧ a ≤ i ∧ depthAt L i = D := by
 unfold kidsTo; simp [List.mem_filter]
def kidsTop (L : List Line) : List Nat := kidsTo L 0 0 L.length
def kidsB (L : List Line) (i : Nat) : List Nat := kidsTo L (depthAt L i + 1) (i + 1) (endB L i)
def iv (l : List Nat) : List Value := l.map fun k : Nat => Value.int .i64 (k : Int)
theorem iv_get {P : List Nat} {j : Nat} (h : j < P.length) : (iv P)[j]? = some (.int .i64 (P[j] : Int)) := by unfold iv; simp [h]
theorem endB_le (L : List Line) (i : Nat) (hi : i < L.length) : i + 1 ≤ endB L i ∧ endB L i ≤ L.length := endFrom_le L _ _ (by omega)
end Tre
namespace Go.Proofs.YtjdknhalcpkeaaaGreatDoor
open Go Go.RowKit Go.Sort Tre
def KidsEnd (w : World) (P : List Nat) (e : Ending) (w' : World) : Prop :=
 ∃ A c, e = .returned (.slice A P.length c) ∧ P.length ≤ c ∧ c ≤ maxLen ∧ Rd w' 1 A P.length (iv P) ∧ Below w.heap.size w w'
theorem info_i64 : (Tryz.prog.info? 3).map (fun i => (i.zero, i.size, i.bytes)) = some (some (.int .i64 0), 1, 8) := by kernel_rfl
theorem own_push_iv {w : World} {base : Nat} {T : TypeId} {v : Value} {l : List Nat} {k : Nat} (h : w.ownsRow base T 1 v (l.length + 1) (iv l ++ [.int .i64 (k : Int)])) : w.ownsRow base T 1 v (l ++ [k]).length (iv (l ++ [k])) := by
 unfold iv at *; simpa using h
theorem Rd.intAt {w : World} {A : Option Addr} {P : List Nat} (h : Rd w 1 A P.length (iv P)) {i : Nat} (hi : i < P.length) :
 ∃ B O, A = some ⟨B, O, none⟩ ∧ B < w.heap.size ∧ (⟨B, O, none⟩ : Addr).add i = ⟨B, O + i, none⟩ ∧ w.cell? ⟨B, O + i, none⟩ = some (.int .i64 (P[i] : Int)) := by
 obtain ⟨ad, e, hb, hx⟩ := h.2 (by omega)
 have h0 := hx i _ (iv_get hi)
 have hs : ad.spot = none := by
  have h00 := hx 0 _ (iv_get (by omega : 0 < P.length))
  exact World.cell?_spot h00
 obtain ⟨B, O, sp⟩ := ad
 obtain rfl : sp = none := hs
 rw [add_plain] at h0
 exact ⟨B, O, e, hb, add_plain _ _ _, h0⟩
theorem go_sound {d : Int} {la : Nat → ByteArray} : ∀ {L : List Line}, rightGo d la L = true → ∀ l ∈ L, soundB l = true
 | [], _, _, h => by cases h
 | x :: r, hg, l, hl => by
   unfold rightGo at hg
   split at hg
   · rename_i hok
     rcases List.mem_cons.1 hl with rfl | hl
     · unfold rgOk at hok; simp only [Bool.and_eq_true] at hok; exact hok.1.1
     · exact go_sound hg l hl
   · cases hg
theorem right_sound {L : List Line} (h : rightB L = true) : ∀ l ∈ L, soundB l = true := by
 unfold rightB at h; simp only [Bool.and_eq_true] at h; exact go_sound h.2
theorem right_depth {L : List Line} (h : rightB L = true) {n : Nat} (hn : n < L.length) : 0 ≤ L[n].depth ∧ L[n].depth < 16 := by
 have := right_sound h _ (List.getElem_mem hn)
 unfold soundB at this; simp only [Bool.and_eq_true, decide_eq_true_eq] at this
 exact ⟨this.1.1.1.1, this.1.1.1.2⟩
set_option maxHeartbeats 2000000 in
set_option maxRecDepth 100000 in
theorem kids_top (A : Option Addr) (cap : Nat) (L : List Line) (w : World) (hR : Rd w 3 A L.length (lines L)) (hcap : L.length ≤ cap) (hc : cap ≤ maxLen) (hr : rightB L = true) :
 Calls Tryz.prog 61 #[.slice A L.length cap, .int .i64 (-1)] w (KidsEnd w (kidsTop L)) := by
 obtain ⟨i0, hi, hz0, hz1, hz2⟩ := info_parts info_i64
 have HC := Lib.hid (right_lines A cap L w hR hcap hc)
 have h200 := right_len hr
 have HR := Lib.hid hR
 have hRt : Hid (rightB L = true) := hr
 unfold maxLen at hc
 clear hR hr
 unfold kidsTop
 go_enter Tryz.func61, Tryz.ntmps61
 go_wp2_with fail
 refine HC.out.mono ?_
 rintro e w1 ⟨rfl, hb1⟩
 clear HC
 rw [hRt.out]
 have hng : decide ((L.length : Int) ≤ -1) = false := decide_eq_false (by omega)
 go_wp2
 rw [show kidsTo L 0 0 L.length = kidsTo L (0 : Int) 0 L.length from rfl]
 go_loopw [8, 9] (fun v vk wr => ∃ k : Nat, vk = .int .i64 k ∧ 0 ≤ k ∧ k ≤ L.length ∧ wr.ownsRow w.heap.size 3 1 v (kidsTo L 0 0 k).length (iv (kidsTo L 0 0 k)) ∧ Below w.heap.size w wr) (fun _ vk _ => L.length - (intOf vk).toNat)
 case atStart => exact ⟨0, by go_num, by omega, by omega, by rw [kidsTo_low]; exact World.ownsRow_nil _ _ _ _, hb1⟩
 case round =>
  clear hb1
  obtain ⟨k, rfl, hak, hk, hown, hb⟩ := hrel
  by_cases hlt : k < L.length
  · have hpl : k < L.length := by omega
    obtain ⟨B', Of', rfl, hab', hadd', y0, -, -⟩ := (HR.out.below hb).line hpl
    have hst : Hid (kidsTo L 0 0 (k + 1) = if L[k].depth = 0 then kidsTo L 0 0 k ++ [k] else kidsTo L 0 0 k) := by
     show _ = _
     rw [kidsTo_succ _ _ _ _ hak, depthAt_lt hpl]
    have hlen := kidsTo_len L 0 0 k
    generalize L[k].depth = x at *
    by_cases hxD : x = 0
    · have HT : Hid (kidsTo L 0 0 (k + 1) = kidsTo L 0 0 k ++ [k]) := by show _ = _; rw [hst.out, if_pos hxD]
      have hxb : (x == 0) = true := by rw [beq_iff_eq]; exact hxD
      clear hst hxD
      generalize kidsTo L 0 0 k = sp at *
      go_wp2_with (at_builtin; refine app_new rfl _ _ 72 rfl w wr 3 i0 _ 1 8 Tryz.underlying72 hi hz0 hz1 hz2 rfl (by decide) (by decide) hown hb rfl 1 1 [.int .i64 (k : Int)] rfl rfl (by simp; rfl) (by omega) ?_; intro v' w' hown' hb')
      go_roundw
      case rel =>
       refine ⟨k + 1, by go_num, by omega, by omega, ?_⟩
       rw [HT.out]
       first | exact ⟨own_push_iv hown', hb'⟩ | exact own_push_iv hown'
      case measure => simp [intOf]; omega
    · have HT : Hid (kidsTo L 0 0 (k + 1) = kidsTo L 0 0 k) := by show _ = _; rw [hst.out, if_neg hxD]
      have hxb : (x == 0) = false := by rw [beq_eq_false_iff_ne]; exact hxD
      clear hst
      go_wp2_with fail
      go_roundw
      case rel => exact ⟨k + 1, by go_num, by omega, by omega, by rw [HT.out]; exact hown, hb⟩
      case measure => simp [intOf]; omega
  · obtain hkE : k = L.length := by omega
    subst hkE
    have hlen := kidsTo_len L 0 0 (L.length)
    obtain ⟨A', c, rfl, hc1, hc2, hRd⟩ := rd_own hown
    have K : Hid (KidsEnd w (kidsTo L 0 0 (L.length)) (.returned (.slice A' (kidsTo L 0 0 (L.length)).length c)) wr) := ⟨A', c, rfl, hc1, hc2, hRd, hb⟩
    clear hown hRd hb
    go_wp2
    go_ret
    exact K.out
set_option maxHeartbeats 2000000 in
set_option maxRecDepth 100000 in
theorem kids_line (A : Option Addr) (cap : Nat) (L : List Line) (n : Nat) (w : World) (hR : Rd w 3 A L.length (lines L)) (hcap : L.length ≤ cap) (hc : cap ≤ maxLen) (hr : rightB L = true) (hn : n < L.length) :
 Calls Tryz.prog 61 #[.slice A L.length cap, .int .i64 n] w (KidsEnd w (kidsB L n)) := by
 obtain ⟨i0, hi, hz0, hz1, hz2⟩ := info_parts info_i64
 have HC := Lib.hid (right_lines A cap L w hR hcap hc)
 have h200 := right_len hr
 have HR := Lib.hid hR
 have hEnd : Hid (∀ W, Below w.heap.size w W → Calls Tryz.prog 59 #[.slice A L.length cap, .int .i64 n] W fun e w' => e = .returned (.int .i64 (endB L n : Nat)) ∧ Below W.heap.size W w') := fun W hb => by
  have := end_lines A cap L n W (hR.below hb) hcap hc
  rw [thereB_lt hr hn] at this; simpa using this
 have hRt : Hid (rightB L = true) := hr
 have hel := endB_le L n hn
 unfold maxLen at hc
 have hdb := right_depth hr hn
 have hkb : kidsB L n = kidsTo L (L[n].depth + 1) (n + 1) (endB L n) := by unfold kidsB; rw [depthAt_lt hn]
 rw [hkb]
 obtain ⟨d, hd⟩ : ∃ d, L[n].depth = d := ⟨_, rfl⟩
 obtain ⟨E, hE⟩ : ∃ E, endB L n = E := ⟨_, rfl⟩
 rw [hd] at hdb ⊢
 rw [hE] at hEnd hel ⊢
 have HD := Lib.hid hd
 clear hR hr hkb hd hE
 go_enter Tryz.func61, Tryz.ntmps61
 go_wp2_with fail
 refine HC.out.mono ?_
 rintro e w1 ⟨rfl, hb1⟩
 clear HC
 rw [hRt.out]
 have hng : decide ((L.length : Int) ≤ (n : Int)) = false := decide_eq_false (by omega)
 obtain ⟨B, O, rfl, hab, hadd, x0, -, -⟩ := (HR.out.below hb1).line hn
 have hs : ∀ m os, Calls Tryz.prog 59 #[.slice (some ⟨B, O, none⟩) L.length cap, .int .i64 n] (grow (redrawn w1 m) os) fun e w' => e = .returned (.int .i64 (E : Nat)) ∧ ∃ p : Regrown, w' = grow (redrawn w1 p.d) p.os := fun m os => Calls.regrown_of (hEnd.out _ (below_step hb1 (below_regrown w1 m os)))
 rw [HD.out] at x0
 have b0 : ∀ m os, (grow (redrawn w1 m) os).cell? ⟨B, O + n * 3, none⟩ = some (.int .i64 d) := fun m os => cell_regrown x0 m os
 have HB1 := Lib.hid hb1
 clear hEnd x0 hb1
 go_wp2
 refine wp_region_quiet_below (by kernel_rfl) (by kernel_rfl) ?_
 repeat (go_big_quiet_step ((go_at_call 59; exact hs _ _)))
 refine wpQuiet_nil ?_
 intro _ hw'
 obtain ⟨⟨dq, osq⟩, hw''⟩ := hw'
 subst hw''
 have hb1 : Below w.heap.size w (grow (redrawn w1 dq) osq) := below_step HB1.out (below_regrown w1 dq osq)
 clear HB1 b0 hs
 generalize grow (redrawn w1 dq) osq = w3 at *
 go_wp2
 have hel2 : n + 1 ≤ E ∧ E ≤ L.length := by omega
 go_loopw [8, 9] (fun v vk wr => ∃ k : Nat, vk = .int .i64 k ∧ (n + 1) ≤ k ∧ k ≤ E ∧ wr.ownsRow w.heap.size 3 1 v (kidsTo L (d + 1) (n + 1) k).length (iv (kidsTo L (d + 1) (n + 1) k)) ∧ Below w.heap.size w wr) (fun _ vk _ => E - (intOf vk).toNat)
 case atStart => exact ⟨(n + 1), by go_num, by omega, by omega, by rw [kidsTo_low]; exact World.ownsRow_nil _ _ _ _, hb1⟩
 case round =>
  clear hb1
  obtain ⟨k, rfl, hak, hk, hown, hb⟩ := hrel
  by_cases hlt : k < E
  · have hpl : k < L.length := by omega
    obtain ⟨B', Of', hA', hab', hadd', y0, -, -⟩ := (HR.out.below hb).line hpl
    injection hA' with hA'
    injection hA' with hBB hOO
    subst hBB hOO
    have hst : Hid (kidsTo L (d + 1) (n + 1) (k + 1) = if L[k].depth = (d + 1) then kidsTo L (d + 1) (n + 1) k ++ [k] else kidsTo L (d + 1) (n + 1) k) := by
     show _ = _
     rw [kidsTo_succ _ _ _ _ hak, depthAt_lt hpl]
    have hlen := kidsTo_len L (d + 1) (n + 1) k
    generalize L[k].depth = x at *
    by_cases hxD : x = (d + 1)
    · have HT : Hid (kidsTo L (d + 1) (n + 1) (k + 1) = kidsTo L (d + 1) (n + 1) k ++ [k]) := by show _ = _; rw [hst.out, if_pos hxD]
      have hxb : (x == (d + 1)) = true := by rw [beq_iff_eq]; exact hxD
      clear hst hxD
      generalize kidsTo L (d + 1) (n + 1) k = sp at *
      go_wp2_with (at_builtin; refine app_new rfl _ _ 72 rfl w wr 3 i0 _ 1 8 Tryz.underlying72 hi hz0 hz1 hz2 rfl (by decide) (by decide) hown hb rfl 1 1 [.int .i64 (k : Int)] rfl rfl (by simp; rfl) (by omega) ?_; intro v' w' hown' hb')
      go_roundw
      case rel =>
       refine ⟨k + 1, by go_num, by omega, by omega, ?_⟩
       rw [HT.out]
       first | exact ⟨own_push_iv hown', hb'⟩ | exact own_push_iv hown'
      case measure => simp [intOf]; omega
    · have HT : Hid (kidsTo L (d + 1) (n + 1) (k + 1) = kidsTo L (d + 1) (n + 1) k) := by show _ = _; rw [hst.out, if_neg hxD]
      have hxb : (x == (d + 1)) = false := by rw [beq_eq_false_iff_ne]; exact hxD
      clear hst
      go_wp2_with fail
      go_roundw
      case rel => exact ⟨k + 1, by go_num, by omega, by omega, by rw [HT.out]; exact hown, hb⟩
      case measure => simp [intOf]; omega
  · obtain hkE : E = k := by omega
    subst hkE
    have hlen := kidsTo_len L (d + 1) (n + 1) (E)
    obtain ⟨A', c, rfl, hc1, hc2, hRd⟩ := rd_own hown
    have K : Hid (KidsEnd w (kidsTo L (d + 1) (n + 1) (E)) (.returned (.slice A' (kidsTo L (d + 1) (n + 1) (E)).length c)) wr) := ⟨A', c, rfl, hc1, hc2, hRd, hb⟩
    clear hown hRd hb
    go_wp2
    go_ret
    exact K.out
end Go.Proofs.YtjdknhalcpkeaaaGreatDoor
namespace Tre
open Go
def findGo (P : List ByteArray) : Nat → Nat → List Line → Option Nat
 | _, _, [] => none
 | p, i, l :: r =>
   if l.depth < (p : Int) then none
   else if (p : Int) < l.depth then findGo P p (i + 1) r
   else if (l.word.toList == (P.getD p ⟨#[]⟩).toList) = false then findGo P p (i + 1) r
   else if p + 1 = P.length then some i else findGo P (p + 1) (i + 1) r
def findB (L : List Line) (P : List ByteArray) : Option Nat := if P.length = 0 ∨ 16 < P.length then none else findGo P 0 0 L
def foundI (o : Option Nat) : Int := match o with | some i => (i : Int) | none => 0
theorem findGo_lt {P : List ByteArray} : ∀ {L : List Line} {p i j : Nat}, findGo P p i L = some j → i ≤ j ∧ j < i + L.length
 | [], _, _, _, h => by cases h
 | l :: r, p, i, j, h => by
   unfold findGo at h
   split at h
   · cases h
   split at h
   · have := findGo_lt h; simp; omega
   split at h
   · have := findGo_lt h; simp; omega
   split at h
   · cases h; simp
   · have := findGo_lt h; simp; omega
theorem findB_lt {P : List ByteArray} {L : List Line} {j : Nat} (h : findB L P = some j) : j < L.length := by
 unfold findB at h
 split at h
 · cases h
 · have := findGo_lt h; omega
end Tre
namespace Go.Proofs.YtjdknhalcpkeaaaGreatDoor
open Go Go.RowKit Go.Sort Tre
set_option maxHeartbeats 2000000 in
set_option maxRecDepth 100000 in
theorem find_lines (A : Option Addr) (cap : Nat) (L : List Line) (Ap : Option Addr) (cp : Nat) (P : List ByteArray) (w : World) (hR : Rd w 3 A L.length (lines L)) (hcap : L.length ≤ cap) (hc : cap ≤ maxLen) (hr : rightB L = true) (hP : Rd w 1 Ap P.length (sv P)) (hcp : P.length ≤ cp) (_hc2 : cp ≤ maxLen) :
 Calls Tryz.prog 46 #[.slice A L.length cap, .slice Ap P.length cp] w fun e w' => e = .returned (.tuple #[.int .i64 (foundI (findB L P)), .bool (findB L P).isSome]) ∧ Below w.heap.size w w' := by
 have HC := Lib.hid (right_lines A cap L w hR hcap hc)
 have h200 := right_len hr
 have HR := Lib.hid hR
 have HP := Lib.hid hP
 have hRt : Hid (rightB L = true) := hr
 have HF0 : Hid (findB L P = if P.length = 0 ∨ 16 < P.length then none else findGo P 0 0 L) := rfl
 unfold maxLen at hc _hc2
 clear hR hr hP
 go_enter Tryz.func46, Tryz.ntmps46
 go_wp2_with fail
 refine HC.out.mono ?_
 rintro e w1 ⟨rfl, hb1⟩
 clear HC
 rw [hRt.out]
 by_cases h0 : P.length = 0
 · have HF : Hid (findB L P = none) := by show _ = _; rw [HF0.out, if_pos (.inl h0)]
   clear HF0
   have hP0 : P = [] := List.length_eq_zero_iff.1 h0
   subst hP0
   go_wp2
   exact bodyPost_ret (v := .tuple #[.int .i64 0, .bool false]) (by simp [results, Tryz.results46, go_sem]) rfl ⟨by rw [HF.out]; rfl, hb1⟩
 · by_cases h16 : 16 < P.length
   · have HF : Hid (findB L P = none) := by show _ = _; rw [HF0.out, if_pos (.inr h16)]
     clear HF0
     go_wp2
     exact bodyPost_ret (v := .tuple #[.int .i64 0, .bool false]) (by simp [results, Tryz.results46, go_sem]) rfl ⟨by rw [HF.out]; rfl, hb1⟩
   · have HF : Hid (findB L P = findGo P 0 0 L) := by show _ = _; rw [HF0.out, if_neg (by omega)]
     have hz : ¬ (16 : Int) < (P.length : Int) := by omega
     have hz0 : ((P.length : Int) == 0) = false := by rw [beq_eq_false_iff_ne]; omega
     clear HF0
     go_wp2
     go_loopw [6, 24] (fun vp vi wr => ∃ k p : Nat, vi = .int .i64 k ∧ vp = .int .i64 p ∧ k ≤ L.length ∧ p < P.length ∧ Hid (findB L P = findGo P p k (L.drop k)) ∧ Below w.heap.size w wr) (fun _ vi _ => L.length - (intOf vi).toNat)
     case atStart => exact ⟨0, 0, rfl, rfl, by omega, by omega, HF, hb1⟩
     case round =>
      clear hb1 HF
      obtain ⟨k, p, rfl, rfl, hk, hp, HQ, hb⟩ := hrel
      by_cases hlt : k < L.length
      · obtain ⟨B, O, rfl, hab, hadd, x0, x1, x2⟩ := (HR.out.below hb).line hlt
        obtain ⟨Bp, Op', rfl, hpb, hpadd, y0⟩ := (HP.out.below hb).strAt hp
        have hbx := line_box (w := wr) (T := 52) L[k] (Below.refl _ _)
        have hyx : (wr.alloc (.cells #[.int .i64 L[k].depth, .string L[k].word, .int .i64 L[k].mark] 52)).cell? ⟨Bp, Op' + p, none⟩ = some (.string P[p]) := by
         rw [World.cell?_alloc_lt _ _ _ hpb]; exact y0
        have hst : Hid (findB L P = if L[k].depth < (p : Int) then none else if (p : Int) < L[k].depth then findGo P p (k + 1) (L.drop (k + 1)) else if (L[k].word.toList == P[p].toList) = false then findGo P p (k + 1) (L.drop (k + 1)) else if p + 1 = P.length then some k else findGo P (p + 1) (k + 1) (L.drop (k + 1))) := by
         show _ = _
         rw [HQ.out, List.drop_eq_getElem_cons hlt, show P[p] = P.getD p ⟨#[]⟩ by simp [hp]]; rfl
        have hbb : Below w.heap.size w (wr.alloc (.cells #[.int .i64 L[k].depth, .string L[k].word, .int .i64 L[k].mark] 52)) := below_step hb ((Below.refl _ _).alloc (Nat.le_refl _) _)
        obtain ⟨b0, b1, b2⟩ := hbx
        have HB := Lib.hid hbb
        clear hb hbb HQ b2
        generalize L[k] = x at *
        obtain ⟨y, hy⟩ : ∃ y, P[p] = y := ⟨_, rfl⟩
        rw [hy] at hst hyx
        clear y0 hy
        by_cases hc1 : x.depth < (p : Int)
        · have HF : Hid (findB L P = none) := by show _ = _; rw [hst.out, if_pos hc1]
          clear hst
          go_wp2
          exact bodyPost_ret (v := .tuple #[.int .i64 0, .bool false]) (by simp [results, Tryz.results46, go_sem]) rfl ⟨by rw [HF.out]; rfl, HB.out⟩
        · by_cases hc2' : (p : Int) < x.depth
          · have HQ2 : Hid (findB L P = findGo P p (k + 1) (L.drop (k + 1))) := by show _ = _; rw [hst.out, if_neg hc1, if_pos hc2']
            have g1 : decide ((p : Int) < x.depth) = true := decide_eq_true hc2'
            clear hst
            go_wp2_with fail
            go_quiet (fail)
            go_wp2
            go_roundw
            case rel => exact ⟨k + 1, p, by go_num, rfl, by omega, hp, HQ2, below_drewN HB.out _⟩
            case measure => simp [intOf]; omega
          · have g1 : decide ((p : Int) < x.depth) = false := decide_eq_false hc2'
            cases g2 : x.word.toList == y.toList with
            | false =>
              have HQ2 : Hid (findB L P = findGo P p (k + 1) (L.drop (k + 1))) := by show _ = _; rw [hst.out, if_neg hc1, if_neg hc2', if_pos g2]
              clear hst
              go_wp2_with fail
              go_quiet (fail)
              go_wp2
              go_roundw
              case rel => exact ⟨k + 1, p, by go_num, rfl, by omega, hp, HQ2, below_drewN HB.out _⟩
              case measure => simp [intOf]; omega
            | true =>
              have g3 : ¬ (x.word.toList == y.toList) = false := by rw [g2]; decide
              by_cases hl : p + 1 = P.length
              · have HF : Hid (findB L P = some k) := by show _ = _; rw [hst.out, if_neg hc1, if_neg hc2', if_neg g3, if_pos hl]
                have hlb : ((p : Int) == (P.length : Int) - 1) = true := by rw [beq_iff_eq]; omega
                clear hst g3
                go_wp2_with fail
                go_quiet (fail)
                go_wp2
                exact bodyPost_ret (v := .tuple #[.int .i64 k, .bool true]) (by simp [results, Tryz.results46, go_sem]) rfl ⟨by rw [HF.out]; rfl, below_drewN HB.out _⟩
              · have HQ2 : Hid (findB L P = findGo P (p + 1) (k + 1) (L.drop (k + 1))) := by show _ = _; rw [hst.out, if_neg hc1, if_neg hc2', if_neg g3, if_neg hl]
                have hlb : ((p : Int) == (P.length : Int) - 1) = false := by rw [beq_eq_false_iff_ne]; omega
                clear hst g3
                go_wp2_with fail
                go_quiet (fail)
                go_wp2
                go_roundw
                case rel => exact ⟨k + 1, p + 1, by go_num, by go_num, by omega, by omega, HQ2, below_drewN HB.out _⟩
                case measure => simp [intOf]; omega
      · obtain rfl : k = L.length := by omega
        have HF : Hid (findB L P = none) := by show _ = _; rw [HQ.out, List.drop_length]; rfl
        clear HQ
        go_wp2
        exact bodyPost_ret (v := .tuple #[.int .i64 0, .bool false]) (by simp [results, Tryz.results46, go_sem]) rfl ⟨by rw [HF.out]; rfl, hb⟩
end Go.Proofs.YtjdknhalcpkeaaaGreatDoor
