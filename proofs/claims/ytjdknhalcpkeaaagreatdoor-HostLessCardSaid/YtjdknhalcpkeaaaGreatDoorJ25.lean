/- Walks: lines.sound, lines.spot. A walk: slices.Insert of one line. A walk: slices.Insert of one line. -/
import Derived.StillTailTactics
import Derived.Shelf.Spec.SlicesInsert
import Derived.Lib.AppendZerosOnto
import Derived.Laws.CopyRow
import Derived.Test.YtjdknhalcpkeaaaGreatDoorJ24
import Derived.Test.YtjdknhalcpkeaaaGreatDoorJ05
import Derived.Test.YtjdknhalcpkeaaaGreatDoorJ06
import Derived.Test.YtjdknhalcpkeaaaGreatDoorJ01
namespace Go.Proofs.YtjdknhalcpkeaaaGreatDoor
open Go Go.RowKit Go.Sort Tre Sch Lns
set_option maxHeartbeats 1000000 in
theorem sound1_any (s : ByteArray) (w : World) : Calls Tryz.prog 80 #[.string s] w fun e w' => e = .returned (.bool (decide (40 < s.size))) ∧ w' = w := by
 go_enter Tryz.func80, Tryz.ntmps80
 go_wp2
 go_ret
 exact ⟨ret_bool (by simp; omega), rfl⟩
def longFrom : Nat → List ByteArray → Int
 | _, [] => -1
 | i, s :: l => if 40 < s.size then (i : Int) else longFrom (i + 1) l
theorem long_neg : ∀ (l : List ByteArray) (i : Nat), (decide (0 ≤ longFrom i l)) = !(l.all fun s => decide (s.size ≤ 40))
 | [], i => rfl
 | s :: l, i => by
   unfold longFrom
   by_cases h : 40 < s.size
   · rw [if_pos h, List.all_cons, decide_eq_false (by omega : ¬ s.size ≤ 40), Bool.false_and]
     simp
   · rw [if_neg h, List.all_cons, decide_eq_true (by omega : s.size ≤ 40), Bool.true_and]
     exact long_neg l (i + 1)
set_option maxHeartbeats 2000000 in
theorem indexLong_any (A : Option Addr) (c : Nat) (P : List ByteArray) (w : World) (hR : Rd w 1 A P.length (sv P)) (hl : P.length ≤ 1000000) :
 Calls Tryz.prog 123 #[.slice A P.length c, .func (.func 80) #[] #[]] w fun e w' => e = .returned (.int .i64 (longFrom 0 P)) ∧ w' = w := by
 have HR := Lib.hid hR
 clear hR
 go_enter Tryz.func123, Tryz.ntmps123
 go_wp2
 go_loopw [8] (fun vi wr => ∃ k : Nat, k ≤ P.length ∧ vi = .int .i64 k ∧ wr = w ∧ Hid (longFrom 0 P = longFrom k (P.drop k))) (fun vi _ => P.length - (intOf vi).toNat)
 case atStart => exact ⟨0, Nat.zero_le _, rfl, rfl, rfl⟩
 case round =>
  obtain ⟨k, hk, rfl, hwe, HQ⟩ := hrel
  have hwe := hwe.symm
  subst hwe
  by_cases hlt : k < P.length
  · obtain ⟨B, O, rfl, hab, hadd, hx⟩ := HR.out.strAt hlt
    have hst : longFrom 0 P = if 40 < P[k].size then (k : Int) else longFrom (k + 1) (P.drop (k + 1)) := by rw [HQ.out, List.drop_eq_getElem_cons hlt]; rfl
    generalize P[k] = s at *
    have HC := Lib.hid (sound1_any s w)
    by_cases h40 : 40 < s.size
    · rw [if_pos h40] at hst
      rw [decide_eq_true h40] at HC
      have HN := Lib.hid hst
      clear hst HQ
      go_wp2_with (go_at_call 80; refine HC.out.mono ?_; rintro e w' ⟨rfl, rfl⟩)
      go_ret
      exact ⟨by rw [HN.out]; rfl, rfl⟩
    · rw [if_neg h40] at hst
      rw [decide_eq_false h40] at HC
      have HN := Lib.hid hst
      clear hst HQ
      go_wp2_with (go_at_call 80; refine HC.out.mono ?_; rintro e w' ⟨rfl, rfl⟩)
      go_roundw
      case rel => exact ⟨k + 1, by omega, by go_num, by simp, HN⟩
      case measure => simp [intOf]; omega
  · have HN : Hid (longFrom 0 P = -1) := by
     show _ = _
     rw [HQ.out, List.drop_eq_nil_of_le (by omega)]; rfl
    have hke : k = P.length := by omega
    clear HQ
    go_wp2
    go_ret
    exact ⟨by rw [HN.out]; rfl, rfl⟩
set_option maxHeartbeats 1000000 in
theorem sound_path (A : Option Addr) (c : Nat) (P : List ByteArray) (w : World) (hR : Rd w 1 A P.length (sv P)) (hl : P.length ≤ 1000000) :
 Calls Tryz.prog 45 #[.slice A P.length c] w fun e w' => e = .returned (.bool (soundP P)) ∧ w' = w := by
 have HI := Lib.hid (indexLong_any A c P w hR hl)
 have HX : Hid (soundP P = (decide (0 < P.length) && !(decide (0 ≤ longFrom 0 P)))) := by
  show _ = _
  rw [long_neg]; unfold soundP; simp
 clear hR
 generalize longFrom 0 P = q at *
 have HCo : Hid (∀ W, W = w → Calls Tryz.prog 79 #[.slice A P.length c, .func (.func 80) #[] #[]] W fun e w' => e = .returned (.bool (decide (0 ≤ q))) ∧ w' = W) := by
  rintro W rfl
  go_enter Tryz.func79, Tryz.ntmps79
  go_wp2_with (go_at_call 123; refine HI.out.mono ?_; rintro e w' ⟨rfl, rfl⟩)
  go_ret
  exact ⟨ret_bool rfl, rfl⟩
 by_cases h0 : 0 < P.length
 · have h0' : (0 : Int) < (P.length : Int) := by omega
   go_enter Tryz.func45, Tryz.ntmps45
   go_wp2_with (go_at_call 79; refine (HCo.out _ rfl).mono ?_; rintro e w' ⟨rfl, rfl⟩)
   go_ret
   exact ⟨ret_bool (by rw [HX.out, decide_eq_true h0]; simp), rfl⟩
 · have h0' : ¬ (0 : Int) < (P.length : Int) := by omega
   go_enter Tryz.func45, Tryz.ntmps45
   go_wp2_with fail
   go_ret
   exact ⟨ret_bool (by rw [HX.out, decide_eq_false h0]; simp), rfl⟩
theorem atOf_end {f : Nat → Bool} {d : Nat} {K : List Nat} {j : Nat} (h : K.length ≤ j) : atOf f d (K.drop j) = d := by
 rw [List.drop_eq_nil_of_le h]; rfl
set_option maxHeartbeats 2000000 in
set_option maxRecDepth 100000 in
theorem spot_any (A : Option Addr) (cap : Nat) (L : List Line) (Ap : Option Addr) (cp : Nat) (U : List ByteArray) (s : ByteArray) (w : World) (hR : Rd w 3 A L.length (lines L)) (hcap : L.length ≤ cap) (hc : cap ≤ maxLen) (hr : rightB L = true) (hP : Rd w 1 Ap U.length (sv U)) (hcp : U.length ≤ cp) (hc2 : cp ≤ maxLen) :
 Calls Tryz.prog 49 #[.slice A L.length cap, .slice Ap U.length cp, .string s] w fun e w' => e = .returned (.int .i64 (spotB L U s : Nat)) ∧ Below w.heap.size w w' := by
 have HFi := Lib.hid (find_lines A cap L Ap cp U w hR hcap hc hr hP hcp hc2)
 have h200 := right_len hr
 have HEn := Lib.hid (fun k (hk : k < L.length) W (hb : Below w.heap.size w W) => end_lines A cap L k W (hR.below hb) hcap hc)
 have HTh := Lib.hid (fun k (hk : k < L.length) => thereB_lt hr hk)
 have HKi := Lib.hid (fun k (hk : k < L.length) W (hb : Below w.heap.size w W) => kids_line A cap L k W (hR.below hb) hcap hc hr hk)
 have HKt := Lib.hid (fun W (hb : Below w.heap.size w W) => kids_top A cap L W (hR.below hb) hcap hc hr)
 have HFl := Lib.hid (fun k (h : findB L U = some k) => findB_lt h)
 have HGT : Hid (∀ k, (h : k < L.length) → (Op.bytesLess L[k].word.toList s.toList || L[k].word.toList == s.toList) = !(gtAt L s k)) := fun k h => by unfold gtAt; rw [wordAt_lt h, less_tri]
 have HX : Hid (spotB L U s = match findB L U with | some a => atOf (gtAt L s) (endB L a) (kidsB L a) | none => atOf (gtAt L s) L.length (kidsTop L)) := rfl
 have HR := Lib.hid hR
 have HKm := Lib.hid (fun k (hk : k < L.length) j (h : j < (kidsB L k).length) => show (kidsB L k)[j] < L.length from by
  have h1 := (mem_kidsTo.1 (List.getElem_mem h)).1
  have := endB_le L k hk
  omega)
 have HKl := Lib.hid (fun k (hk : k < L.length) => show (kidsB L k).length ≤ 200 from by
  have h1 := kidsTo_len L (depthAt L k + 1) (k + 1) (endB L k)
  have := endB_le L k hk
  unfold kidsB; omega)
 have HTm := Lib.hid (fun j (h : j < (kidsTop L).length) => show (kidsTop L)[j] < L.length from (mem_kidsTo.1 (List.getElem_mem h)).1)
 have HTl : Hid ((kidsTop L).length ≤ 200) := by
  have h1 := kidsTo_len L 0 0 L.length
  show _ ≤ _
  unfold kidsTop; omega
 clear hR hP hr
 go_enter Tryz.func49, Tryz.ntmps49
 cases hf : findB L U with
 | none =>
   rw [hf] at HFi HX
   have HX2 : Hid (spotB L U s = atOf (gtAt L s) L.length (kidsTop L)) := HX.out
   clear HX HKi HKm HKl HEn HTh HFl hf
   have HAD := Lib.hid (fun j h => atOf_drop (f := gtAt L s) (d := L.length) (K := kidsTop L) (j := j) h)
   have HAE := Lib.hid (fun j h => atOf_end (f := gtAt L s) (d := L.length) (K := kidsTop L) (j := j) h)
   have hkl := HTl.out
   generalize kidsTop L = K at *
   generalize gtAt L s = f at *
   go_wp2_with (first | (go_at_call 46; refine HFi.out.mono ?_; rintro e w1 ⟨rfl, hb1⟩) | (go_at_call 61; refine (HKt.out _ hb1).mono ?_; unfold KidsEnd; rintro e w2 ⟨A2, c2, rfl, hc21, hc22, hrd2, hb2⟩; have HI := Lib.hid hrd2; have HB2 := Lib.hid (below_step hb1 hb2); clear hrd2 hb2 hb1))
   go_loopw [28] (fun vi wr => ∃ j : Nat, j ≤ K.length ∧ vi = .int .i64 j ∧ wr = w2 ∧ Hid (spotB L U s = atOf f L.length (K.drop j))) (fun vi _ => K.length - (intOf vi).toNat)
   case atStart => exact ⟨0, Nat.zero_le _, rfl, rfl, HX2.out⟩
   case round =>
    obtain ⟨j, hj, rfl, hwe, HQ⟩ := hrel
    have hwe := hwe.symm
    subst hwe
    by_cases hlt : j < K.length
    · obtain ⟨B, O, rfl, hab, hadd, hx⟩ := HI.out.intAt hlt
      have hql := HTm.out j hlt
      have had := HAD.out j hlt
      generalize K[j] = q at *
      obtain ⟨B2, O2, rfl, hab2, hadd2, y0, y1, y2⟩ := (HR.out.below HB2.out).line hql
      have hgt := HGT.out q hql
      generalize L[q].word = u at *
      have hqi : (q : Int) < (L.length : Int) := by omega
      clear HGT HAD y0 y2
      cases hf : f q with
      | true =>
        rw [hf, Bool.not_true] at hgt
        rw [hf, if_pos rfl] at had
        have hg1 : Op.bytesLess u.toList s.toList = false := by cases h : Op.bytesLess u.toList s.toList <;> simp [h] at hgt ⊢
        have hg2 : (u.toList == s.toList) = false := by rw [hg1] at hgt; simpa using hgt
        have hg3 : ¬ u.toList = s.toList := by simpa using hg2
        have HN : Hid (spotB L U s = q) := by show _ = _; rw [HQ.out, had]
        clear hf had HQ
        go_wp2_with fail
        go_ret
        exact ⟨by rw [HN.out]; rfl, HB2.out⟩
      | false =>
        rw [hf, Bool.not_false] at hgt
        rw [hf, if_neg (by simp)] at had
        have hg4 : (!(Op.bytesLess u.toList s.toList) && !(u.toList == s.toList)) = false := by
         rw [← Bool.not_or, hgt]; rfl
        have HN : Hid (spotB L U s = atOf f L.length (K.drop (j + 1))) := by show _ = _; rw [HQ.out, had]
        clear hf had HQ
        go_wp2_with fail
        go_roundw
        case rel => exact ⟨j + 1, by omega, by go_num, by simp, HN⟩
        case measure => simp [intOf]; omega
    · have HN : Hid (spotB L U s = L.length) := by show _ = _; rw [HQ.out, HAE.out j (by omega)]
      have hjk : j = K.length := by omega
      clear HQ
      go_wp2_with fail
      go_ret
      exact ⟨by rw [HN.out]; rfl, HB2.out⟩
 | some k =>
   have hk := HFl.out k hf
   rw [hf] at HFi HX
   have HX2 : Hid (spotB L U s = atOf (gtAt L s) (endB L k) (kidsB L k)) := HX.out
   have HEk := HEn.out k hk
   rw [HTh.out k hk] at HEk
   have HEk2 : Hid (∀ W, Below w.heap.size w W → Calls Tryz.prog 59 #[.slice A L.length cap, .int .i64 k] W fun e w' => e = .returned (.int .i64 (endB L k : Nat)) ∧ Below W.heap.size W w') := HEk
   have HKk := Lib.hid (HKi.out k hk)
   have hkl := HKl.out k hk
   have HKM := Lib.hid (HKm.out k hk)
   clear HX HKi HKm HKl HEn HTh HFl HKt HTm HTl hf HEk
   have HAD := Lib.hid (fun j h => atOf_drop (f := gtAt L s) (d := endB L k) (K := kidsB L k) (j := j) h)
   have HAE := Lib.hid (fun j h => atOf_end (f := gtAt L s) (d := endB L k) (K := kidsB L k) (j := j) h)
   generalize kidsB L k = K at *
   generalize gtAt L s = f at *
   generalize endB L k = d at *
   go_wp2_with (first | (go_at_call 46; refine HFi.out.mono ?_; rintro e w1 ⟨rfl, hb1⟩) | (go_at_call 59; refine (HEk2.out _ hb1).mono ?_; rintro e w1b ⟨rfl, hb1b⟩; have hb1c := below_step hb1 hb1b) | (go_at_call 61; refine (HKk.out _ hb1c).mono ?_; unfold KidsEnd; rintro e w2 ⟨A2, c2, rfl, hc21, hc22, hrd2, hb2⟩; have HI := Lib.hid hrd2; have HB2 := Lib.hid (below_step hb1c hb2); clear hrd2 hb2 hb1 hb1b hb1c))
   go_loopw [28] (fun vi wr => ∃ j : Nat, j ≤ K.length ∧ vi = .int .i64 j ∧ wr = w2 ∧ Hid (spotB L U s = atOf f d (K.drop j))) (fun vi _ => K.length - (intOf vi).toNat)
   case atStart => exact ⟨0, Nat.zero_le _, rfl, rfl, HX2.out⟩
   case round =>
    obtain ⟨j, hj, rfl, hwe, HQ⟩ := hrel
    have hwe := hwe.symm
    subst hwe
    by_cases hlt : j < K.length
    · obtain ⟨B, O, rfl, hab, hadd, hx⟩ := HI.out.intAt hlt
      have hql := HKM.out j hlt
      have had := HAD.out j hlt
      generalize K[j] = q at *
      obtain ⟨B2, O2, rfl, hab2, hadd2, y0, y1, y2⟩ := (HR.out.below HB2.out).line hql
      have hgt := HGT.out q hql
      generalize L[q].word = u at *
      have hqi : (q : Int) < (L.length : Int) := by omega
      clear HGT HAD y0 y2
      cases hf : f q with
      | true =>
        rw [hf, Bool.not_true] at hgt
        rw [hf, if_pos rfl] at had
        have hg1 : Op.bytesLess u.toList s.toList = false := by cases h : Op.bytesLess u.toList s.toList <;> simp [h] at hgt ⊢
        have hg2 : (u.toList == s.toList) = false := by rw [hg1] at hgt; simpa using hgt
        have hg3 : ¬ u.toList = s.toList := by simpa using hg2
        have HN : Hid (spotB L U s = q) := by show _ = _; rw [HQ.out, had]
        clear hf had HQ
        go_wp2_with fail
        go_ret
        exact ⟨by rw [HN.out]; rfl, HB2.out⟩
      | false =>
        rw [hf, Bool.not_false] at hgt
        rw [hf, if_neg (by simp)] at had
        have hg4 : (!(Op.bytesLess u.toList s.toList) && !(u.toList == s.toList)) = false := by
         rw [← Bool.not_or, hgt]; rfl
        have HN : Hid (spotB L U s = atOf f d (K.drop (j + 1))) := by show _ = _; rw [HQ.out, had]
        clear hf had HQ
        go_wp2_with fail
        go_roundw
        case rel => exact ⟨j + 1, by omega, by go_num, by simp, HN⟩
        case measure => simp [intOf]; omega
    · have HN : Hid (spotB L U s = d) := by show _ = _; rw [HQ.out, HAE.out j (by omega)]
      have hjk : j = K.length := by omega
      clear HQ
      go_wp2_with fail
      go_ret
      exact ⟨by rw [HN.out]; rfl, HB2.out⟩
end Go.Proofs.YtjdknhalcpkeaaaGreatDoor
namespace Go.Proofs.YtjdknhalcpkeaaaGreatDoor
open Go Go.RowKit Go.Sort Tre Lns
theorem run_copy_rowK {P : Program} (k : Nat) (w : World) (dT sT ty elem : TypeId) (g o dLen dCap : Nat) (a : Addr) (sLen sCap : Nat) (cur : Array Value) (t : TypeId) (cs : List Value)
 (hu : P.underlying dT = some (.slice elem)) (hs : (P.info? elem).map (·.size) = some k)
 (hg : w.heap[g]? = some (.cells cur t (0, 0))) (hn : cs.length = Nat.min sLen dLen * k)
 (hsrc : ∀ j v, cs[j]? = some v → w.cell? (a.add j) = some v) (hfit : o + cs.length ≤ cur.size) (h1 : ∀ v ∈ cs, v.oneCell' = true) :
 (Builtin.copy_ #[dT, sT] ty #[.slice (some ⟨g, o, none⟩) dLen dCap, .slice (some a) sLen sCap]).run P w =
  .ok (goInt (Nat.min sLen dLen)) (w.setRow g (cur.toList.take o ++ cs ++ cur.toList.drop (o + cs.length)).toArray) := by
 have hl := run_loadCells_list (P := P) w a cs hsrc
 have hst := run_storeCells_at P g o t cs 0 cur w hg (by simpa using hfit) h1
 cases hq : P.info? elem with
 | none => simp [hq] at hs
 | some i =>
   have hi : i.size = k := by simpa [hq] using hs
   simp [Builtin.copy_, run_underlying hu, Builtin.lenOf, Builtin.firstCells, sizeOf, typeInfo, hq, hi, ← hn, hl, hst]
def segs (cur : List Value) (o : Nat) (cs : List Value) : List Value := cur.take o ++ cs ++ cur.drop (o + cs.length)
theorem segs_len {cur : List Value} {o : Nat} {cs : List Value} (h : o + cs.length ≤ cur.length) : (segs cur o cs).length = cur.length := by
 unfold segs
 rw [List.length_append, List.length_append, List.length_take, List.length_drop]; omega
theorem setRow_below {n : Nat} {a w : World} (h : Below n a w) {g : Nat} (hg : n ≤ g) (cs : Array Value) : Below n a (w.setRow g cs) :=
 ⟨h.os, h.tape, h.output, by
  have := h.size
  simpa [World.setRow] using this, fun k hk => by
  rw [← h.block k hk]
  simp only [World.setRow]
  rw [Array.getElem?_modify, if_neg (by omega)]⟩
theorem lines_split (L : List Line) (i : Nat) : lines L = lines (L.take i) ++ lines (L.drop i) := by rw [← lines_append, List.take_append_drop]
theorem lines_ins (L : List Line) (l : Line) (i : Nat) : lines (insB L i l) = lines (L.take i) ++ l.cells ++ lines (L.drop i) := by
 unfold insB
 rw [lines_append, show l :: L.drop i = [l] ++ L.drop i from rfl, lines_append, lines_one, List.append_assoc]
theorem take_pre {cur : List Value} {L : List Line} {i : Nat} (hi : i ≤ L.length) (h : cur.take (L.length * 3) = lines L) : cur.take (i * 3) = lines (L.take i) := by
 have h2 : (lines (L.take i)).length = i * 3 := by rw [lines_length, List.length_take, Nat.min_eq_left hi]
 have e2 : cur.take (i * 3) = (cur.take (L.length * 3)).take (i * 3) := by rw [List.take_take, Nat.min_eq_left (by omega)]
 rw [e2, h, lines_split L i, List.take_left' h2]
theorem segs_shift (L : List Line) (l : Line) (i : Nat) (hi : i ≤ L.length) (cur : List Value) (h : cur.take (i * 3) = lines (L.take i)) (hc : (L.length + 1) * 3 ≤ cur.length) :
 (segs (segs cur ((i + 1) * 3) (lines (L.drop i))) (i * 3) l.cells).take ((L.length + 1) * 3) = lines (insB L i l) := by
 have h1 : (lines (L.drop i)).length = (L.length - i) * 3 := by rw [lines_length, List.length_drop]
 have h4 : ((segs cur ((i + 1) * 3) (lines (L.drop i))).take (i * 3)) = lines (L.take i) := by
  unfold segs
  rw [List.append_assoc, List.take_append_of_le_length (by rw [List.length_take]; omega), List.take_take, Nat.min_eq_left (by omega), h]
 have h5 : (segs cur ((i + 1) * 3) (lines (L.drop i))).drop (i * 3 + l.cells.length) = lines (L.drop i) ++ cur.drop ((i + 1) * 3 + (lines (L.drop i)).length) := by
  have e : (cur.take ((i + 1) * 3)).length = i * 3 + l.cells.length := by
   rw [List.length_take]
   show _ = i * 3 + 3
   omega
  unfold segs
  rw [List.append_assoc, List.drop_left' e]
 have h7 : segs (segs cur ((i + 1) * 3) (lines (L.drop i))) (i * 3) l.cells = lines (insB L i l) ++ cur.drop ((i + 1) * 3 + (lines (L.drop i)).length) := by
  rw [show segs (segs cur ((i + 1) * 3) (lines (L.drop i))) (i * 3) l.cells = (segs cur ((i + 1) * 3) (lines (L.drop i))).take (i * 3) ++ l.cells ++ (segs cur ((i + 1) * 3) (lines (L.drop i))).drop (i * 3 + l.cells.length) from rfl]
  rw [h4, h5, lines_ins]
  simp only [List.append_assoc]
 rw [h7, List.take_left']
 rw [lines_length, insB_len]
theorem segs_fresh (L : List Line) (l : Line) (i : Nat) (hi : i ≤ L.length) (cur : List Value) (h : cur.take (i * 3) = lines (L.take i)) :
 (segs (segs cur (i * 3) l.cells) ((i + 1) * 3) (lines (L.drop i))).take ((L.length + 1) * 3) = lines (insB L i l) := by
 have h2 : (lines (L.take i)).length = i * 3 := by rw [lines_length, List.length_take, Nat.min_eq_left hi]
 have h4 : (segs cur (i * 3) l.cells).take ((i + 1) * 3) = lines (L.take i) ++ l.cells := by
  unfold segs
  rw [h, List.take_left']
  rw [List.length_append, h2]
  show i * 3 + 3 = _
  omega
 have h7 : ∃ r, segs (segs cur (i * 3) l.cells) ((i + 1) * 3) (lines (L.drop i)) = lines (insB L i l) ++ r := by
  refine ⟨(segs cur (i * 3) l.cells).drop ((i + 1) * 3 + (lines (L.drop i)).length), ?_⟩
  rw [show segs (segs cur (i * 3) l.cells) ((i + 1) * 3) (lines (L.drop i)) = (segs cur (i * 3) l.cells).take ((i + 1) * 3) ++ lines (L.drop i) ++ (segs cur (i * 3) l.cells).drop ((i + 1) * 3 + (lines (L.drop i)).length) from rfl]
  rw [h4, lines_ins]
 obtain ⟨r, h7⟩ := h7
 rw [h7, List.take_left']
 rw [lines_length, insB_len]
end Go.Proofs.YtjdknhalcpkeaaaGreatDoor
namespace Go.Proofs.YtjdknhalcpkeaaaGreatDoor
open Go Go.RowKit Go.Sort Tre Lns
theorem size_line (w : World) : (Go.sizeOf 52).run Tryz.prog w = .ok 3 w := by
 obtain ⟨i0, hii, hz0, hz1, hz2⟩ := info_parts info_pl
 simp [sizeOf, typeInfo, hii, hz1]
theorem hsz_line : (Tryz.prog.info? 52).map (·.size) = some 3 := by
 obtain ⟨i0, hii, hz0, hz1, hz2⟩ := info_parts info_pl
 rw [hii]; simp [hz1]
set_option maxHeartbeats 4000000 in
set_option maxRecDepth 100000 in
theorem insert_room (w0 w : World) (g n c i vb vc : Nat) (cur : Array Value) (T : TypeId) (L : List Line) (l : Line) (hb : Below w0.heap.size w0 w) (hg : w0.heap.size ≤ g) (hh : w.heap[g]? = some (.cells cur 52 (0, 0))) (hn : L.length = n) (hi : i < n) (hroom : n + 1 ≤ c) (hcm : c ≤ maxLen) (hsz : cur.size = c * 3) (ht : cur.toList.take (n * 3) = lines L)
 (hv : w.heap[vb]? = some (.cells #[.int .i64 l.depth, .string l.word, .int .i64 l.mark] T (0, 0))) (hne : vb ≠ g) :
 Calls Tryz.prog 47 #[.slice (some ⟨g, 0, none⟩) n c, .int .i64 i, .slice (some ⟨vb, 0, none⟩) 1 vc] w fun e w' =>
  (∃ v', e = .returned v' ∧ w'.ownsRow w0.heap.size 52 3 v' (n + 1) (lines (insB L i l))) ∧ Below w0.heap.size w0 w' := by
 have hc63 : c ≤ 9223372036854775807 := by unfold maxLen at hcm; omega
 have hcl : (lines (L.drop i)).length = (n - i) * 3 := by rw [lines_length, List.length_drop, hn]
 have hcur : cur.toList.length = c * 3 := by rw [← hsz]; simp
 have hpre : cur.toList.take (i * 3) = lines (L.take i) := take_pre (by omega) (by rw [hn]; exact ht)
 have hat : ∀ j v, (lines (L.drop i))[j]? = some v → w.cell? ((⟨g, i * 3, none⟩ : Addr).add j) = some v := fun j v hj => by
  rw [add_plain, cell_of_row w g _ cur _ (0, 0) hh]
  have hjl : j < (n - i) * 3 := by rw [← hcl]; exact (List.getElem?_eq_some_iff.1 hj).1
  have h1 : (lines L)[i * 3 + j]? = some v := by
   rw [lines_split L i, List.getElem?_append_right (by rw [lines_length, List.length_take, hn]; omega), lines_length, List.length_take, hn, Nat.min_eq_left (by omega), Nat.add_sub_cancel_left]
   exact hj
  rw [← ht, List.getElem?_take] at h1
  split at h1
  · simpa using h1
  · cases h1
 have hov : ∀ lb cb, (callFunc 81 #[.slice (some ⟨vb, 0, none⟩) 1 vc, .slice (some ⟨g, (i + 1) * 3, none⟩) lb cb]).run Tryz.prog w = .ok (.value (.bool false)) w := fun lb cb => by
  rw [run_callFunc_extern Tryz.func81 (by kernel_rfl) (by kernel_rfl) (by kernel_rfl) (e := Extern.SlicesOverlaps.overlaps #[22, 22] #[4]) (by kernel_rfl),
   Lib.run_overlaps_apart w 22 4 52 Tryz.underlying22 3 size_line ⟨vb, 0, none⟩ ⟨g, (i + 1) * 3, none⟩ 1 vc lb cb hne T 52 3 cur.size (by simp [World.shape?, hv]) (by simp [World.shape?, hh]) (by omega) (by simp [World.frozen?, hv]) (by simp [World.frozen?, hv])]
  rfl
 obtain ⟨cur1, hcur1⟩ : ∃ cur1, (segs cur.toList ((i + 1) * 3) (lines (L.drop i))).toArray = cur1 := ⟨_, rfl⟩
 have hl1 : cur1.toList.length = c * 3 := by
  rw [← hcur1]
  show (segs _ _ _).length = _
  rw [segs_len (by rw [hcl, hcur]; omega), hcur]
 obtain ⟨w1, hw1⟩ : ∃ w1, w.drew.setRow g cur1 = w1 := ⟨_, rfl⟩
 have hh1 : w1.heap[g]? = some (.cells cur1 52 (0, 0)) := by rw [← hw1]; exact setRow_heap w.drew g cur cur1 _ _ hh
 have hcp1 : ∀ ty dc sc, (Builtin.copy_ #[22, 22] ty #[.slice (some ⟨g, (i + 1) * 3, none⟩) (n - i) dc, .slice (some ⟨g, i * 3, none⟩) (n + 1 - i) sc]).run Tryz.prog w.drew = .ok (goInt ((n - i : Nat) : Int)) w1 := fun ty dc sc => by
  have := run_copy_rowK 3 w.drew 22 22 ty 52 g ((i + 1) * 3) (n - i) dc ⟨g, i * 3, none⟩ (n + 1 - i) sc cur 52 (lines (L.drop i)) Tryz.underlying22 hsz_line hh (by rw [hcl]; congr 1; simp only [Nat.min_def]; split <;> omega) hat (by rw [hcl, hsz]; omega) (lines_c _)
  rw [this, show Nat.min (n + 1 - i) (n - i) = n - i by simp only [Nat.min_def]; split <;> omega, ← hw1, ← hcur1]
  rfl
 have hvb1 : w1.heap[vb]? = some (.cells #[.int .i64 l.depth, .string l.word, .int .i64 l.mark] T (0, 0)) := by
  rw [← hw1, ← hv]
  simp only [World.setRow]
  rw [Array.getElem?_modify, if_neg (fun e => hne e.symm)]
  rfl
 have hcp2 : ∀ ty dc, (Builtin.copy_ #[22, 22] ty #[.slice (some ⟨g, i * 3, none⟩) (n + 1 - i) dc, .slice (some ⟨vb, 0, none⟩) 1 vc]).run Tryz.prog w1 = .ok (goInt 1) (w1.setRow g (segs cur1.toList (i * 3) l.cells).toArray) := fun ty dc => by
  have := run_copy_rowK 3 w1 22 22 ty 52 g (i * 3) (n + 1 - i) dc ⟨vb, 0, none⟩ 1 vc cur1 52 l.cells Tryz.underlying22 hsz_line hh1 (by rw [show Nat.min 1 (n + 1 - i) = 1 by simp only [Nat.min_def]; split <;> omega]; rfl)
   (fun j v hj => by rw [add_plain, cell_of_row w1 vb _ _ _ (0, 0) hvb1, Nat.zero_add, List.getElem?_toArray]; exact hj) (by rw [← Array.length_toList, hl1]; show i * 3 + 3 ≤ _; omega) (cells_one _)
  rw [this, show Nat.min 1 (n + 1 - i) = 1 by simp only [Nat.min_def]; split <;> omega]
  rfl
 obtain ⟨w2, hw2⟩ : ∃ w2, w1.setRow g (segs cur1.toList (i * 3) l.cells).toArray = w2 := ⟨_, rfl⟩
 rw [hw2] at hcp2
 have hB : Hid (Below w0.heap.size w0 w2) := by
  show Below _ _ _
  rw [← hw2, ← hw1]
  exact setRow_below (setRow_below hb.drew hg _) hg _
 have hO : Hid (w2.ownsRow w0.heap.size 52 3 (.slice (some ⟨g, 0, none⟩) (n + 1) c) (n + 1) (lines (insB L i l))) := by
  refine ⟨by rw [lines_length, insB_len, hn], .inr ⟨g, c, (segs cur1.toList (i * 3) l.cells).toArray, rfl, hg, ?_, hroom, hcm, ?_, ?_⟩⟩
  · rw [← hw2]; exact setRow_heap w1 g cur1 _ _ _ hh1
  · rw [← Array.length_toList]
    show (segs _ _ _).length = _
    rw [segs_len (by rw [hl1]; show i * 3 + 3 ≤ _; omega), hl1]
  · show (segs cur1.toList (i * 3) l.cells).take _ = _
    rw [← hcur1, ← hn]
    exact segs_shift L l i (by omega) cur.toList hpre (by rw [hcur, hn]; omega)
 have hz2 : ¬ ((i : Int) = (n : Int)) := by omega
 have hw1' : IntKind.i64.wrap ((i : Int) + 1) = (i : Int) + 1 := by rw [IntKind.wrap_i64]; omega
 have hz3 : ¬ ((c : Int) < (n : Int) + 1) := by omega
 have hb1 : (0 : Int) ≤ (i : Int) + 1 := by omega
 have hin : i ≤ n := by omega
 have hb2 : ¬ (c = i + 1) := by omega
 have hb3 : (i : Int) ≤ (n : Int) + 1 := by omega
 have hb4 : ¬ (c = i) := by omega
 clear hcl hcur hpre hat hcur1 hl1 hw1 hh1 hvb1 hw2 ht hh hv hb hsz
 have mixed : Tryz.prog.follows .mixedOrders = true := by kernel_rfl
 go_enter Tryz.func47, Tryz.ntmps47
 go_wp2_with (simp only [hov])
 go_region_law_o (refine step_copy_runI rfl _ _ 22 22 rfl _ _ (by simp [Act.eval, Act.put]) (by simp [Act.eval, Act.put]) (hcp1 _ _ _) ?_)
 go_wp2_with (at_builtin; refine wpList_copy_runI _ rfl _ _ 22 22 rfl _ _ rfl rfl (hcp2 _ _) ?_)
 go_ret
 exact ⟨⟨_, rfl, hO.out⟩, hB.out⟩
end Go.Proofs.YtjdknhalcpkeaaaGreatDoor
