/- A walk: the reference's Right (layer 3). Plain facts: a tree as the list of its paths, in order. No program in sight. -/
import Derived.Sort.Walk0
import Derived.Test.YtjdknhalcpkeaaaGreatDoorJ06
import Derived.Test.YtjdknhalcpkeaaaGreatDoorJ05
namespace Tre
open Go
def allFrom (f : Nat → Bool) : Nat → Nat → Bool
 | _, 0 => true
 | k, n + 1 => f k && allFrom f (k + 1) n
theorem allFrom_iff {f : Nat → Bool} : ∀ {n k : Nat}, allFrom f k n = true ↔ ∀ i, k ≤ i → i < k + n → f i = true
 | 0, k => by simp [allFrom]; omega
 | n + 1, k => by
   unfold allFrom
   rw [Bool.and_eq_true, allFrom_iff]
   constructor
   · rintro ⟨h0, h⟩ i hi hi2
     rcases Nat.eq_or_lt_of_le hi with rfl | hlt
     · exact h0
     · exact h i hlt (by omega)
   · intro h
     exact ⟨h k (Nat.le_refl _) (by omega), fun i hi hi2 => h i (by omega) (by omega)⟩
def lineAt (L : List Line) (k : Nat) : Line := match L[k]? with | some l => l | none => ⟨0, ⟨#[]⟩, 0⟩
theorem lineAt_lt {L : List Line} {i : Nat} (h : i < L.length) : lineAt L i = L[i] := by unfold lineAt; rw [List.getElem?_eq_getElem h]
def lineOk (L : List Line) (k : Nat) : Bool := soundB (lineAt L k) && (if k = 0 then decide ((lineAt L k).depth = 0) else decide ((lineAt L k).depth ≤ depthAt L (k - 1) + 1))
def pairFrom (L : List Line) (i : Nat) : Nat → Nat → Bool
 | _, 0 => true
 | k, n + 1 => if depthAt L k < depthAt L i then true else if (decide (depthAt L k = depthAt L i) && leB (wordAt L k) (wordAt L i)) = true then false else pairFrom L i (k + 1) n
def pairOk (L : List Line) (i : Nat) : Bool := pairFrom L i (i + 1) (L.length - (i + 1))
def rightR (L : List Line) : Bool := decide (L.length ≤ 200) && allFrom (lineOk L) 0 L.length && allFrom (pairOk L) 0 L.length
end Tre
namespace Go.Proofs.YtjdknhalcpkeaaaGreatDoor
open Go Go.RowKit Go.Sort Tre
set_option maxHeartbeats 16000000 in
set_option maxRecDepth 100000 in
theorem refRight_lines (A : Option Addr) (cap : Nat) (L : List Line) (w : World) (hR : Rd w 3 A L.length (lines L)) (_hcap : L.length ≤ cap) (_hc : cap ≤ maxLen) :
 Calls Tryz.prog 12 #[.slice A L.length cap] w fun e w' => e = .returned (.bool (rightR L)) ∧ Below w.heap.size w w' := by
 have HR := Lib.hid hR
 have HX : Hid (rightR L = (decide (L.length ≤ 200) && allFrom (lineOk L) 0 L.length && allFrom (pairOk L) 0 L.length)) := rfl
 clear hR
 unfold maxLen at _hc
 go_enter Tryz.func12, Tryz.ntmps12
 by_cases h200 : 200 < L.length
 · have hz : (200 : Int) < (L.length : Int) := by omega
   have HF : Hid (rightR L = false) := by show _ = _; rw [HX.out, decide_eq_false (by omega)]; rfl
   clear HX
   go_wp2
   go_ret
   exact ⟨ret_bool (by rw [HF.out]), Below.refl _ _⟩
 · have hz : ¬ (200 : Int) < (L.length : Int) := by omega
   have HX2 : Hid (rightR L = (allFrom (lineOk L) 0 (L.length - 0) && allFrom (pairOk L) 0 L.length)) := by show _ = _; rw [HX.out, decide_eq_true (by omega), Bool.true_and]; rfl
   clear HX
   go_wp2
   go_loopw [3] (fun vk wr => ∃ k : Nat, vk = .int .i64 k ∧ k ≤ L.length ∧ Hid (rightR L = (allFrom (lineOk L) k (L.length - k) && allFrom (pairOk L) 0 L.length)) ∧ (0 < k → 0 ≤ depthAt L (k - 1) ∧ depthAt L (k - 1) < 16) ∧ Below w.heap.size w wr) (fun vk _ => L.length - (intOf vk).toNat)
   case atStart => exact ⟨0, rfl, by omega, HX2, fun h => absurd h (by omega), Below.refl _ _⟩
   case round =>
    clear HX2
    obtain ⟨k, rfl, hk, HQ, hpd, hb⟩ := hrel
    by_cases hlt : k < L.length
    · obtain ⟨B, O, rfl, hab, hadd, x0, x1, x2⟩ := (HR.out.below hb).line hlt
      have hst : Hid (rightR L = (lineOk L k && allFrom (lineOk L) (k + 1) (L.length - (k + 1)) && allFrom (pairOk L) 0 L.length)) := by
       show _ = _
       rw [HQ.out, show L.length - k = (L.length - (k + 1)) + 1 by omega]; rfl
      have HOK : Hid (lineOk L k = (soundB L[k] && (if k = 0 then decide (L[k].depth = 0) else decide (L[k].depth ≤ depthAt L (k - 1) + 1)))) := by show _ = _; unfold lineOk; rw [lineAt_lt hlt]
      have HSD : Hid (soundB L[k] = (decide (0 ≤ L[k].depth) && decide (L[k].depth < 16) && decide (L[k].word.size ≤ 40) && decide (0 ≤ L[k].mark) && decide (L[k].mark ≤ 3))) := rfl
      have hbx := line_box (w := wr) (T := 52) L[k] (Below.refl _ _)
      have hbb : Below w.heap.size w (wr.alloc (.cells #[.int .i64 L[k].depth, .string L[k].word, .int .i64 L[k].mark] 52)) := below_step hb ((Below.refl _ _).alloc (Nat.le_refl _) _)
      obtain ⟨b0, b1, b2⟩ := hbx
      have HB := Lib.hid hbb
      have HDK : Hid (depthAt L k = L[k].depth) := depthAt_lt hlt
      have hprev : 0 < k → ∃ d0, depthAt L (k - 1) = d0 ∧ 0 ≤ d0 ∧ d0 < 16 ∧ (⟨B, O, none⟩ : Addr).add ((k - 1) * 3) = ⟨B, O + (k - 1) * 3, none⟩ ∧ (wr.alloc (.cells #[.int .i64 L[k].depth, .string L[k].word, .int .i64 L[k].mark] 52)).cell? ⟨B, O + (k - 1) * 3, none⟩ = some (.int .i64 d0) := fun h0 => by
       obtain ⟨B', O', hA', -, hadd', y0, -, -⟩ := (HR.out.below hb).line (show k - 1 < L.length by omega)
       injection hA' with hA'
       injection hA' with hBB hOO
       subst hBB hOO
       refine ⟨_, rfl, (hpd h0).1, (hpd h0).2, hadd', ?_⟩
       rw [depthAt_lt (show k - 1 < L.length by omega), World.cell?_alloc_lt _ _ _ hab]; exact y0
      have HPV := Lib.hid hprev
      clear hb hbb HQ hpd hprev
      generalize L[k] = x at *
      by_cases hsb : soundB x = true
      · have hsx := hsb
        rw [HSD.out] at hsx
        simp only [Bool.and_eq_true, decide_eq_true_eq] at hsx
        obtain ⟨⟨⟨⟨s1, s2⟩, s3⟩, s4⟩, s5⟩ := hsx
        have t1 : ¬ x.depth < 0 := by omega
        have t2 : ¬ (15 : Int) < x.depth := by omega
        have t3 : ¬ (40 : Int) < (x.word.size : Int) := by omega
        have t4 : ¬ x.mark < 0 := by omega
        have t5 : ¬ (3 : Int) < x.mark := by omega
        have HSB := Lib.hid hsb
        have HD16 : Hid (0 ≤ depthAt L k ∧ depthAt L k < 16) := by show _ ∧ _; rw [HDK.out]; exact ⟨s1, s2⟩
        clear hsb HSD HDK
        rcases Nat.eq_zero_or_pos k with hk0 | hk0
        · subst hk0
          simp only [Nat.zero_mul, Nat.add_zero] at x0 x1 x2 hadd
          clear HPV
          by_cases hx0 : x.depth = 0
          · have HQ2 : Hid (rightR L = (allFrom (lineOk L) (0 + 1) (L.length - (0 + 1)) && allFrom (pairOk L) 0 L.length)) := by
             show _ = _
             rw [hst.out, HOK.out, HSB.out, if_pos rfl, decide_eq_true hx0, Bool.true_and, Bool.true_and]
            have hx1 : (x.depth == 0) = true := by rw [beq_iff_eq]; exact hx0
            have hx2 : (x.depth != 0) = false := by rw [bne, hx1]; rfl
            have hx3 : (!decide (x.depth = 0)) = false := by rw [decide_eq_true hx0]; rfl
            clear hst HOK hx0
            go_wp2_with fail
            go_quiet (fail)
            go_wp2
            go_roundw
            case rel => exact ⟨1, rfl, by omega, HQ2, fun _ => HD16.out, below_drewN HB.out _⟩
            case measure => simp [intOf]; omega
          · have HF : Hid (rightR L = false) := by
             show _ = _
             rw [hst.out, HOK.out, HSB.out, if_pos rfl, decide_eq_false hx0]; rfl
            have hx1 : (x.depth == 0) = false := by rw [beq_eq_false_iff_ne]; exact hx0
            have hx2 : (x.depth != 0) = true := by rw [bne, hx1]; rfl
            have hx3 : (!decide (x.depth = 0)) = true := by rw [decide_eq_false hx0]; rfl
            clear hst HOK hx0
            go_wp2_with fail
            go_quiet (fail)
            go_wp2
            go_ret
            exact ⟨ret_bool (by rw [HF.out]), below_drewN HB.out _⟩
        · obtain ⟨d0, hd0, dl, dh, hadd', y0⟩ := HPV.out hk0
          obtain ⟨q, hq⟩ : ∃ q, k - 1 = q := ⟨_, rfl⟩
          rw [hq] at hd0 hadd' y0
          have HK1 : Hid (k - 1 = q) := hq
          have hk1 : ((k : Int) == 0) = false := by rw [beq_eq_false_iff_ne]; omega
          have hk2 : decide ((0 : Int) < (k : Int)) = true := decide_eq_true (by omega)
          have hk3 : (k : Int) - 1 = (q : Int) := by omega
          have hql : q < L.length := by omega
          have hkn : ¬ k = 0 := by omega
          clear HPV hq
          by_cases hx0 : x.depth ≤ d0 + 1
          · have HQ2 : Hid (rightR L = (allFrom (lineOk L) (k + 1) (L.length - (k + 1)) && allFrom (pairOk L) 0 L.length)) := by
             show _ = _
             rw [hst.out, HOK.out, HSB.out, if_neg hkn, HK1.out, hd0, decide_eq_true hx0, Bool.true_and, Bool.true_and]
            have hx1 : decide (d0 + 1 < x.depth) = false := decide_eq_false (by omega)
            clear hst HOK hd0 hx0 hkn
            go_wp2_with fail
            go_quiet (fail)
            go_wp2
            go_roundw
            case rel => exact ⟨k + 1, by go_num, by omega, HQ2, fun _ => HD16.out, below_drewN HB.out _⟩
            case measure => simp [intOf]; omega
          · have HF : Hid (rightR L = false) := by
             show _ = _
             rw [hst.out, HOK.out, HSB.out, if_neg hkn, HK1.out, hd0, decide_eq_false hx0]; rfl
            have hx1 : decide (d0 + 1 < x.depth) = true := decide_eq_true (by omega)
            clear hst HOK hd0 hx0 hkn
            go_wp2_with fail
            go_quiet (fail)
            go_wp2
            go_ret
            exact ⟨ret_bool (by rw [HF.out]), below_drewN HB.out _⟩
      · have hsf : soundB x = false := by simpa using hsb
        have HF : Hid (rightR L = false) := by show _ = _; rw [hst.out, HOK.out, hsf]; rfl
        have HNS : Hid (¬ (0 ≤ x.depth ∧ x.depth < 16 ∧ (x.word.size : Int) ≤ 40 ∧ 0 ≤ x.mark ∧ x.mark ≤ 3)) := by
         intro h
         rw [HSD.out, decide_eq_true h.1, decide_eq_true h.2.1, decide_eq_true (by omega), decide_eq_true h.2.2.2.1, decide_eq_true h.2.2.2.2] at hsf
         cases hsf
        clear hst HOK HSD hsb hsf HDK HPV
        go_wp2
        all_goals first
         | (go_ret; exact ⟨ret_bool (by rw [HF.out]), HB.out⟩)
         | (exfalso; have := HNS.out; omega)
    · obtain rfl : k = L.length := by omega
      have HX3 : Hid (rightR L = allFrom (pairOk L) 0 (L.length - 0)) := by show _ = _; rw [HQ.out, Nat.sub_self]; rfl
      clear HQ hpd
      go_wp2
      go_loopw [5] (fun vk wr => ∃ k : Nat, vk = .int .i64 k ∧ k ≤ L.length ∧ Hid (rightR L = allFrom (pairOk L) k (L.length - k)) ∧ Below w.heap.size w wr) (fun vk _ => L.length - (intOf vk).toNat)
      case atStart => exact ⟨0, rfl, by omega, HX3, hb⟩
      case round =>
       clear HX3 hb
       obtain ⟨i, rfl, hi, HQ, hb⟩ := hrel
       by_cases hlt : i < L.length
       · have HPO : Hid (pairOk L i = pairFrom L i (i + 1) (L.length - (i + 1))) := rfl
         have hst : Hid (rightR L = (pairOk L i && allFrom (pairOk L) (i + 1) (L.length - (i + 1)))) := by
          show _ = _
          rw [HQ.out, show L.length - i = (L.length - (i + 1)) + 1 by omega]; rfl
         clear HQ
         go_wp2
         go_loopw [6] (fun vk wr => ∃ k : Nat, vk = .int .i64 k ∧ i < k ∧ k ≤ L.length ∧ Hid (pairOk L i = pairFrom L i k (L.length - k)) ∧ Below w.heap.size w wr) (fun vk _ => L.length - (intOf vk).toNat)
         case atStart => exact ⟨i + 1, by go_num, by omega, by omega, HPO, hb⟩
         case round =>
          clear HPO hb
          obtain ⟨k, rfl, hik, hk, HQ, hb⟩ := hrel
          by_cases hkl : k < L.length
          · obtain ⟨B, O, rfl, hab, hadd, x0, x1, -⟩ := (HR.out.below hb).line hlt
            obtain ⟨B', O', hA', -, hadd', y0, y1, -⟩ := (HR.out.below hb).line hkl
            injection hA' with hA'
            injection hA' with hBB hOO
            subst hBB hOO
            have hin : Hid (pairOk L i = if L[k].depth < L[i].depth then true else if (decide (L[k].depth = L[i].depth) && leB L[k].word L[i].word) = true then false else pairFrom L i (k + 1) (L.length - (k + 1))) := by
             show _ = _
             rw [HQ.out, show L.length - k = (L.length - (k + 1)) + 1 by omega, ← depthAt_lt hkl, ← depthAt_lt hlt, ← wordAt_lt hkl, ← wordAt_lt hlt]; rfl
            have HB := Lib.hid hb
            have hg : decide ((k : Int) < (L.length : Int)) = true := decide_eq_true (by omega)
            clear HQ hb
            generalize L[k] = x at *
            generalize L[i] = y at *
            by_cases hc1 : x.depth < y.depth
            · have hT : Hid (pairOk L i = true) := by show _ = _; rw [hin.out, if_pos hc1]
              have HT2 : Hid (rightR L = allFrom (pairOk L) (i + 1) (L.length - (i + 1))) := by show _ = _; rw [hst.out, hT.out, Bool.true_and]
              have g1 : decide (y.depth ≤ x.depth) = false := decide_eq_false (by omega)
              clear hin hst hT hc1
              go_wp2_with fail
              go_quiet (fail)
              go_wp2
              go_roundw
              case rel => exact ⟨i + 1, by go_num, by omega, HT2, below_drewN HB.out _⟩
              case measure => simp [intOf]; omega
            · have g1 : decide (y.depth ≤ x.depth) = true := decide_eq_true (by omega)
              by_cases hc2 : x.depth = y.depth
              · have g2 : (x.depth == y.depth) = true := by rw [beq_iff_eq]; exact hc2
                have hin2 : Hid (pairOk L i = if leB x.word y.word = true then false else pairFrom L i (k + 1) (L.length - (k + 1))) := by
                 show _ = _; rw [hin.out, if_neg hc1, decide_eq_true hc2, Bool.true_and]
                obtain ⟨dx, hdx⟩ : ∃ dx, x.depth = dx := ⟨_, rfl⟩
                obtain ⟨dy, hdy⟩ : ∃ dy, y.depth = dy := ⟨_, rfl⟩
                rw [hdx] at y0 g1 g2
                rw [hdy] at x0 g1 g2
                clear hin hc1 hc2 hdx hdy
                cases hle : leB x.word y.word with
                | true =>
                  have hlv : (Op.bytesLess x.word.toList y.word.toList || x.word.toList == y.word.toList) = true := hle
                  have HF : Hid (rightR L = false) := by show _ = _; rw [hst.out, hin2.out, if_pos hle]; rfl
                  clear hle hin2 hst
                  go_wp2_with fail
                  go_quiet (fail)
                  go_wp2_with fail
                  go_quiet (fail)
                  go_wp2
                  go_ret
                  exact ⟨ret_bool (by rw [HF.out]), below_drewN (below_drewN HB.out _) _⟩
                | false =>
                  have hlv : (Op.bytesLess x.word.toList y.word.toList || x.word.toList == y.word.toList) = false := hle
                  have HF : Hid (pairOk L i = pairFrom L i (k + 1) (L.length - (k + 1))) := by show _ = _; rw [hin2.out, if_neg (by rw [hle]; decide)]
                  clear hle hin2
                  go_wp2_with fail
                  go_quiet (fail)
                  go_wp2_with fail
                  go_quiet (fail)
                  go_wp2
                  go_roundw
                  case rel => exact ⟨k + 1, by go_num, by omega, by omega, HF, below_drewN HB.out _⟩
                  case measure => simp [intOf]; omega
              · have g2 : (x.depth == y.depth) = false := by rw [beq_eq_false_iff_ne]; exact hc2
                have HF : Hid (pairOk L i = pairFrom L i (k + 1) (L.length - (k + 1))) := by
                 show _ = _; rw [hin.out, if_neg hc1, decide_eq_false hc2, Bool.false_and, if_neg (by decide)]
                clear hin hc1 hc2
                go_wp2_with fail
                go_quiet (fail)
                go_wp2_with fail
                go_quiet (fail)
                go_wp2
                go_roundw
                case rel => exact ⟨k + 1, by go_num, by omega, by omega, HF, below_drewN HB.out _⟩
                case measure => simp [intOf]; omega
          · obtain rfl : k = L.length := by omega
            have hT : Hid (pairOk L i = true) := by show _ = _; rw [HQ.out, Nat.sub_self]; rfl
            have HT2 : Hid (rightR L = allFrom (pairOk L) (i + 1) (L.length - (i + 1))) := by show _ = _; rw [hst.out, hT.out, Bool.true_and]
            have HB := Lib.hid hb
            have hg : decide ((L.length : Int) < (L.length : Int)) = false := decide_eq_false (by omega)
            clear HQ hst hT hb
            go_wp2_with fail
            go_quiet (fail)
            go_wp2
            go_roundw
            case rel => exact ⟨i + 1, by go_num, by omega, HT2, below_drewN HB.out _⟩
            case measure => simp [intOf]; omega
       · obtain rfl : i = L.length := by omega
         have HF : Hid (rightR L = true) := by show _ = _; rw [HQ.out, Nat.sub_self]; rfl
         clear HQ
         go_wp2
         go_ret
         exact ⟨ret_bool (by rw [HF.out]), hb⟩
end Go.Proofs.YtjdknhalcpkeaaaGreatDoor
namespace Tre
open Go
def nxt (p : List ByteArray) (l : Line) : List ByteArray := p.take l.depth.toNat ++ [l.word]
def pathsFrom (p : List ByteArray) : List Line → List (List ByteArray)
 | [] => []
 | l :: r => nxt p l :: pathsFrom (nxt p l) r
def paths (L : List Line) : List (List ByteArray) := pathsFrom [] L
def depFrom (p : List ByteArray) : List Line → Bool
 | [] => true
 | l :: r => soundB l && decide (l.depth ≤ (p.length : Int)) && depFrom (nxt p l) r
def srtOk (p : List ByteArray) (l : Line) : Bool := decide (l.depth = (p.length : Int)) || Op.bytesLess (p.getD l.depth.toNat ⟨#[]⟩).toList l.word.toList
def srtFrom (p : List ByteArray) : List Line → Bool
 | [] => true
 | l :: r => srtOk p l && srtFrom (nxt p l) r
theorem sound_depth {l : Line} (h : soundB l = true) : 0 ≤ l.depth ∧ l.depth < 16 := by
 unfold soundB at h; simp only [Bool.and_eq_true, decide_eq_true_eq] at h; exact ⟨h.1.1.1.1, h.1.1.1.2⟩
theorem nxt_len {p : List ByteArray} {l : Line} (h0 : 0 ≤ l.depth) (h : l.depth ≤ (p.length : Int)) : ((nxt p l).length : Int) = l.depth + 1 := by
 unfold nxt; rw [List.length_append, List.length_take]; simp; omega
theorem less_tri (a b : List UInt8) : (Op.bytesLess a b || a == b) = !(Op.bytesLess b a) := by
 rw [Proofs.bytesLess_eq, Proofs.bytesLess_eq, Bool.eq_iff_iff]
 simp only [Bool.or_eq_true, decide_eq_true_eq, beq_iff_eq, Bool.not_eq_true', decide_eq_false_iff_not]
 constructor
 · rintro (h | rfl) h2
   · exact List.lt_irrefl a (List.lt_trans h h2)
   · exact List.lt_irrefl a h2
 · intro h
   rcases List.le_iff_lt_or_eq.1 (List.not_lt.1 h) with h | h
   · exact .inl h
   · exact .inr h
theorem go_steps : ∀ {L : List Line} {p : List ByteArray} {la : Nat → ByteArray}, (∀ (j : Nat) (h : j < p.length), la j = p[j]) → rightGo ((p.length : Int) - 1) la L = (depFrom p L && srtFrom p L)
 | [], p, la, h => rfl
 | l :: r, p, la, h => by
   unfold rightGo rgOk depFrom srtFrom srtOk
   cases hs : soundB l with
   | false => simp
   | true =>
     obtain ⟨d0, d1⟩ := sound_depth hs
     by_cases hd : l.depth ≤ (p.length : Int)
     · rw [decide_eq_true (p := l.depth ≤ (p.length : Int) - 1 + 1) (by omega), decide_eq_true hd]
       have hn := nxt_len d0 hd
       have ih := go_steps (L := r) (p := nxt p l) (la := put la l.depth l.word) (fun j hj => by
        unfold put nxt at *
        rw [List.length_append, List.length_take] at hj
        simp only [List.length_singleton] at hj
        by_cases e : j = l.depth.toNat
        · rw [if_pos e, List.getElem_append_right (by rw [List.length_take]; omega)]
          simp
        · rw [if_neg e, List.getElem_append_left (by rw [List.length_take]; omega), List.getElem_take]
          exact h j (by omega))
       rw [show ((nxt p l).length : Int) - 1 = l.depth by omega] at ih
       rw [ih]
       by_cases he : l.depth = (p.length : Int)
       · rw [decide_eq_false (p := l.depth ≤ (p.length : Int) - 1) (by omega), decide_eq_true he]
         simp
       · have hlt : l.depth.toNat < p.length := by omega
         rw [decide_eq_true (p := l.depth ≤ (p.length : Int) - 1) (by omega), decide_eq_false he, h _ hlt]
         have : p.getD l.depth.toNat ⟨#[]⟩ = p[l.depth.toNat] := by rw [List.getD_eq_getElem?_getD, List.getElem?_eq_getElem hlt]; rfl
         rw [this]
         unfold leB
         rw [less_tri]
         cases Op.bytesLess p[l.depth.toNat].toList l.word.toList <;> simp
     · rw [decide_eq_false (p := l.depth ≤ (p.length : Int) - 1 + 1) (by omega), decide_eq_false hd]
       simp
theorem right_steps (L : List Line) : rightB L = (decide (L.length ≤ 200) && (depFrom [] L && srtFrom [] L)) := by
 unfold rightB
 rw [← go_steps (L := L) (p := []) (la := fun _ => ⟨#[]⟩) (fun j h => by simp at h)]
 rfl
theorem pathsFrom_len : ∀ (p : List ByteArray) (L : List Line), (pathsFrom p L).length = L.length
 | _, [] => rfl
 | p, l :: r => by unfold pathsFrom; rw [List.length_cons, List.length_cons, pathsFrom_len]
theorem paths_length (L : List Line) : (paths L).length = L.length := pathsFrom_len _ _
theorem depFrom_at : ∀ {p : List ByteArray} {L : List Line}, depFrom p L = true → ∀ (i : Nat) (h : i < L.length), soundB L[i] = true ∧ ((pathsFrom p L)[i]'(by rw [pathsFrom_len]; exact h)).length = L[i].depth.toNat + 1 ∧ 0 ≤ L[i].depth
 | _, [], _, i, h => absurd h (by simp)
 | p, l :: r, hd, i, h => by
   unfold depFrom at hd
   simp only [Bool.and_eq_true, decide_eq_true_eq] at hd
   obtain ⟨d0, d1⟩ := sound_depth hd.1.1
   cases i with
   | zero =>
     have := nxt_len d0 hd.1.2
     exact ⟨hd.1.1, by simp only [pathsFrom, List.getElem_cons_zero]; omega, d0⟩
   | succ i => simpa [pathsFrom] using depFrom_at hd.2 i (by simpa using h)
theorem pathsFrom_succ : ∀ (p : List ByteArray) (L : List Line) (i : Nat) (h : i + 1 < L.length), (pathsFrom p L)[i + 1]'(by rw [pathsFrom_len]; exact h) = nxt ((pathsFrom p L)[i]'(by rw [pathsFrom_len]; omega)) L[i + 1]
 | p, [], i, h => absurd h (by simp)
 | p, l :: r, 0, h => by
   cases r with
   | nil => simp at h
   | cons a r => rfl
 | p, l :: r, i + 1, h => by simpa [pathsFrom] using pathsFrom_succ (nxt p l) r i (by simpa using h)
theorem depFrom_succ : ∀ {p : List ByteArray} {L : List Line}, depFrom p L = true → ∀ (i : Nat) (h : i + 1 < L.length), L[i + 1].depth ≤ L[i].depth + 1
 | _, [], _, i, h => absurd h (by simp)
 | p, l :: r, hd, 0, h => by
   unfold depFrom at hd
   simp only [Bool.and_eq_true, decide_eq_true_eq] at hd
   obtain ⟨d0, d1⟩ := sound_depth hd.1.1
   cases r with
   | nil => simp at h
   | cons a r =>
     have h2 := hd.2
     unfold depFrom at h2
     simp only [Bool.and_eq_true, decide_eq_true_eq] at h2
     have := nxt_len d0 hd.1.2
     show a.depth ≤ l.depth + 1
     omega
 | p, l :: r, hd, i + 1, h => by
   unfold depFrom at hd
   simp only [Bool.and_eq_true, decide_eq_true_eq] at hd
   simpa using depFrom_succ hd.2 i (by simpa using h)
theorem depFrom_zero {L : List Line} (hd : depFrom [] L = true) (h : 0 < L.length) : L[0].depth = 0 := by
 cases L with
 | nil => simp at h
 | cons l r =>
   unfold depFrom at hd
   simp only [Bool.and_eq_true, decide_eq_true_eq] at hd
   obtain ⟨d0, d1⟩ := sound_depth hd.1.1
   have := hd.1.2
   simp at this
   show l.depth = 0
   omega
def pa (L : List Line) (i : Nat) : List ByteArray := (paths L).getD i []
theorem pa_lt {L : List Line} {i : Nat} (h : i < L.length) : pa L i = (paths L)[i]'(by rw [paths_length]; exact h) := by
 unfold pa; rw [List.getD_eq_getElem?_getD, List.getElem?_eq_getElem (by rw [paths_length]; exact h)]; rfl
section
variable {L : List Line} (hd : depFrom [] L = true)
include hd
theorem dep_nn {i : Nat} (h : i < L.length) : 0 ≤ depthAt L i ∧ depthAt L i < 16 := by
 rw [depthAt_lt h]; exact sound_depth (depFrom_at hd i h).1
theorem pa_len {i : Nat} (h : i < L.length) : (pa L i).length = (depthAt L i).toNat + 1 := by
 rw [pa_lt h, depthAt_lt h]; exact (depFrom_at hd i h).2.1
theorem dep_step {i : Nat} (h : i + 1 < L.length) : depthAt L (i + 1) ≤ depthAt L i + 1 := by
 rw [depthAt_lt h, depthAt_lt (by omega)]; exact depFrom_succ hd i h
omit hd in
theorem pa_succ {i : Nat} (h : i + 1 < L.length) : pa L (i + 1) = (pa L i).take (depthAt L (i + 1)).toNat ++ [wordAt L (i + 1)] := by
 rw [pa_lt h, pa_lt (by omega : i < L.length), depthAt_lt h, wordAt_lt h]
 exact pathsFrom_succ [] L i h
theorem dep_zero (h : 0 < L.length) : depthAt L 0 = 0 := by rw [depthAt_lt h]; exact depFrom_zero hd h
theorem pa_zero (h : 0 < L.length) : pa L 0 = [wordAt L 0] := by
 rw [pa_lt h, wordAt_lt h]
 cases L with
 | nil => simp at h
 | cons l r => simp [paths, pathsFrom, nxt]
theorem pa_keep {D : Nat} {i : Nat} : ∀ {k : Nat}, i ≤ k → k < L.length → (∀ m, i < m → m ≤ k → (D : Int) ≤ depthAt L m) → (pa L k).take D = (pa L i).take D := by
 intro k
 induction k with
 | zero => intro h1 h2 _; rw [show i = 0 by omega]
 | succ k ih =>
   intro h1 h2 h3
   by_cases e : i = k + 1
   · rw [e]
   · rw [pa_succ h2]
     have hk := ih (by omega) (by omega) (fun m a b => h3 m a (by omega))
     have hD := h3 (k + 1) (by omega) (Nat.le_refl _)
     have hs := dep_step hd h2
     have hl := pa_len hd (by omega : k < L.length)
     have hn := dep_nn hd (by omega : k < L.length)
     rw [List.take_append_of_le_length (by rw [List.length_take]; omega), List.take_take, Nat.min_eq_left (by omega)]
     exact hk
theorem under_at {D : Nat} (hD : 1 ≤ D) : ∀ {k : Nat}, 0 < k → k ≤ L.length → (D : Int) ≤ depthAt L (k - 1) + 1 →
 ∃ j, j < k ∧ underFrom L D k = (j : Int) ∧ depthAt L j = (D : Int) - 1 ∧ (∀ m, j < m → m < k → (D : Int) ≤ depthAt L m) ∧ pa L j = (pa L (k - 1)).take D := by
 intro k
 induction k with
 | zero => intro h; omega
 | succ k ih =>
   intro _ h2 h3
   simp only [Nat.add_sub_cancel] at h3 ⊢
   unfold underFrom
   by_cases h : (D : Int) ≤ depthAt L k
   · rw [if_pos h]
     have hk0 : k ≠ 0 := by
      rintro rfl
      rw [dep_zero hd (by omega)] at h
      omega
     have hs := dep_step hd (i := k - 1) (by omega)
     rw [show k - 1 + 1 = k by omega] at hs
     obtain ⟨j, a, b, c, d, e⟩ := ih (by omega) (by omega) (by omega)
     refine ⟨j, by omega, b, c, fun m x y => ?_, ?_⟩
     · rcases Nat.lt_or_ge m k with hm | hm
       · exact d m x hm
       · rw [show m = k by omega]; exact h
     · rw [e]
       exact (pa_keep hd (D := D) (i := k - 1) (k := k) (by omega) (by omega) (fun m x y => by rw [show m = k by omega]; exact h)).symm
   · rw [if_neg h]
     have hl := pa_len hd (by omega : k < L.length)
     have hn := dep_nn hd (by omega : k < L.length)
     exact ⟨k, by omega, rfl, by omega, fun m x y => by omega, by rw [List.take_of_length_le (by omega)]⟩
theorem under_zero {i : Nat} (h0 : depthAt L i = 0) : ∀ k, k ≤ L.length → underFrom L (depthAt L i) k = -1 := by
 intro k
 induction k with
 | zero => intro _; rfl
 | succ k ih =>
   intro h
   unfold underFrom
   rw [if_pos (by rw [h0]; exact (dep_nn hd (by omega : k < L.length)).1)]
   exact ih (by omega)
theorem up_of {i : Nat} (h : i < L.length) (h0 : depthAt L i ≠ 0) : ∃ j, j < i ∧ underB L i = (j : Int) ∧ depthAt L j = depthAt L i - 1 ∧ (∀ m, j < m → m ≤ i → depthAt L i ≤ depthAt L m) ∧ pa L i = pa L j ++ [wordAt L i] := by
 have hn := dep_nn hd h
 have hi0 : i ≠ 0 := by rintro rfl; exact h0 (dep_zero hd h)
 have hs := dep_step hd (i := i - 1) (by omega)
 rw [show i - 1 + 1 = i by omega] at hs
 obtain ⟨D, hD⟩ : ∃ D : Nat, depthAt L i = (D : Int) := ⟨(depthAt L i).toNat, by omega⟩
 obtain ⟨j, a, b, c, d, e⟩ := under_at hd (D := D) (by omega) (k := i) (by omega) (by omega) (by omega)
 refine ⟨j, a, by unfold underB; rw [hD]; exact b, by omega, fun m x y => ?_, ?_⟩
 · rcases Nat.lt_or_ge m i with hm | hm
   · rw [hD]; exact d m x hm
   · rw [show m = i by omega]; exact Int.le_refl _
 · have := pa_succ (L := L) (i := i - 1) (by omega)
   rw [show i - 1 + 1 = i by omega, hD, Int.toNat_natCast] at this
   rw [this, e]
theorem path_pa : ∀ {i : Nat}, i < L.length → pathB L i = pa L i := by
 intro i
 induction i using Nat.strongRecOn with
 | ind i ih =>
   intro h
   by_cases h0 : depthAt L i = 0
   · rw [pathB_top L i (by unfold underB; exact under_zero hd h0 i (by omega))]
     rcases Nat.eq_zero_or_pos i with rfl | hp
     · exact (pa_zero hd h).symm
     · have := pa_succ (L := L) (i := i - 1) (by omega)
       rw [show i - 1 + 1 = i by omega, h0] at this
       rw [this]; rfl
   · obtain ⟨j, a, b, c, d, e⟩ := up_of hd h h0
     rw [pathB_sub L i j b, ih j a (by omega), e]
theorem head_at {i : Nat} : ∀ {q : Nat}, i < L.length → 1 ≤ q → q ≤ (pa L i).length → ∃ m, m ≤ i ∧ pa L m = (pa L i).take q := by
 induction i using Nat.strongRecOn with
 | ind i ih =>
   intro q h h1 h2
   by_cases hq : q = (pa L i).length
   · exact ⟨i, Nat.le_refl _, by rw [hq, List.take_length]⟩
   · by_cases h0 : depthAt L i = 0
     · have := pa_len hd h
       rw [h0] at this
       simp at this; omega
     · obtain ⟨j, a, b, c, d, e⟩ := up_of hd h h0
       have hl : (pa L i).length = (pa L j).length + 1 := by rw [e]; simp
       obtain ⟨m, hm, hm2⟩ := ih j a (q := q) (by omega) h1 (by omega)
       exact ⟨m, by omega, by rw [hm2, e, List.take_append_of_le_length (by omega)]⟩
end
def key (p : List ByteArray) : List (List UInt8) := p.map (·.toList)
def pLt (a b : List ByteArray) : Prop := key a < key b
theorem bytes_inj {a b : ByteArray} (h : a.toList = b.toList) : a = b := ByteArray.ext (Array.toList_inj.1 (by rwa [Lib.toList_data, Lib.toList_data] at h))
theorem pLt_irrefl (a : List ByteArray) : ¬ pLt a a := List.lt_irrefl _
theorem pLt_trans {a b c : List ByteArray} (h : pLt a b) (k : pLt b c) : pLt a c := List.lt_trans h k
theorem pLt_nil (a : ByteArray) (l : List ByteArray) : pLt [] (a :: l) := List.Lex.nil
theorem pLt_cons {x : ByteArray} {a b : List ByteArray} : pLt (x :: a) (x :: b) ↔ pLt a b := by
 unfold pLt key
 rw [List.map_cons, List.map_cons]
 constructor
 · intro h
   cases h with
   | rel h => exact absurd h (List.lt_irrefl _)
   | cons h => exact h
 · exact fun h => List.Lex.cons h
theorem pLt_head {x y : ByteArray} {a b : List ByteArray} (h : x.toList < y.toList) : pLt (x :: a) (y :: b) := List.Lex.rel h
theorem pLt_cons_iff {x y : ByteArray} {a b : List ByteArray} : pLt (x :: a) (y :: b) ↔ x.toList < y.toList ∨ x = y ∧ pLt a b := by
 constructor
 · intro h
   by_cases e : x = y
   · subst e; exact .inr ⟨rfl, pLt_cons.1 h⟩
   · have h' : (x.toList :: key a) < (y.toList :: key b) := h
     rcases List.cons_lt_cons_iff.1 h' with h' | ⟨h', -⟩
     · exact .inl h'
     · exact absurd (bytes_inj h') e
 · rintro (h | ⟨rfl, h⟩)
   · exact pLt_head h
   · exact pLt_cons.2 h
theorem pLt_push (a : List ByteArray) (x : ByteArray) (l : List ByteArray) : pLt a (a ++ x :: l) := by
 induction a with
 | nil => exact pLt_nil _ _
 | cons y a ih => exact pLt_cons.2 ih
theorem pLt_front {a b c : List ByteArray} : pLt (a ++ b) (a ++ c) ↔ pLt b c := by
 induction a with
 | nil => exact Iff.rfl
 | cons y a ih => rw [List.cons_append, List.cons_append, pLt_cons, ih]
theorem pLt_nil_not (a : List ByteArray) : ¬ pLt a [] := by intro h; cases a <;> cases h
theorem between {a b t : List ByteArray} (h1 : pLt a b) (h2 : pLt b (a ++ t) ∨ b = a ++ t) : ∃ s, b = a ++ s := by
 induction a generalizing b with
 | nil => exact ⟨b, rfl⟩
 | cons x a ih =>
   cases b with
   | nil => exact absurd h1 (pLt_nil_not _)
   | cons y b =>
     rcases h2 with h2 | h2
     · rw [List.cons_append, pLt_cons_iff] at h2
       rw [pLt_cons_iff] at h1
       rcases h1 with h1 | ⟨rfl, h1⟩
       · rcases h2 with h2 | ⟨rfl, h2⟩
         · exact absurd (List.lt_trans h1 h2) (List.lt_irrefl _)
         · exact absurd h1 (List.lt_irrefl _)
       · rcases h2 with h2 | ⟨-, h2⟩
         · exact absurd h2 (List.lt_irrefl _)
         · obtain ⟨s, rfl⟩ := ih h1 (.inl h2); exact ⟨s, rfl⟩
     · exact ⟨t, h2⟩
theorem nxt_up {p : List ByteArray} {l : Line} (h0 : 0 ≤ l.depth) (h : l.depth ≤ (p.length : Int)) (hs : srtOk p l = true) : pLt p (nxt p l) := by
 unfold srtOk at hs
 unfold nxt
 simp only [Bool.or_eq_true, decide_eq_true_eq] at hs
 by_cases e : l.depth = (p.length : Int)
 · rw [e, Int.toNat_natCast, List.take_length]; exact pLt_push _ _ _
 · have hlt : l.depth.toNat < p.length := by omega
   have hb := hs.resolve_left e
   rw [List.getD_eq_getElem?_getD, List.getElem?_eq_getElem hlt, Proofs.bytesLess_eq, decide_eq_true_eq] at hb
   conv => lhs; rw [← List.take_append_drop l.depth.toNat p]
   rw [List.drop_eq_getElem_cons hlt]
   exact pLt_front.2 (pLt_head hb)
theorem pathsFrom_up : ∀ {L : List Line} {p : List ByteArray}, depFrom p L = true → srtFrom p L = true → (∀ q ∈ pathsFrom p L, pLt p q) ∧ (pathsFrom p L).Pairwise pLt
 | [], p, _, _ => ⟨fun q h => (by cases h), List.Pairwise.nil⟩
 | l :: r, p, h1, h2 => by
   unfold depFrom at h1
   unfold srtFrom at h2
   simp only [Bool.and_eq_true, decide_eq_true_eq] at h1 h2
   obtain ⟨d0, d1⟩ := sound_depth h1.1.1
   have hu := nxt_up d0 h1.1.2 h2.1
   obtain ⟨a, b⟩ := pathsFrom_up h1.2 h2.2
   unfold pathsFrom
   refine ⟨fun q hq => ?_, List.pairwise_cons.2 ⟨a, b⟩⟩
   rcases List.mem_cons.1 hq with rfl | hq
   · exact hu
   · exact pLt_trans hu (a q hq)
end Tre
