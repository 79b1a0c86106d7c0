/- A walk: the reference's Read (layer 11): whether a text is a metric's; the number itself stays open. -/
import Derived.Test.YtjdknhalcpkeaaaGreatDoorJ12
namespace Mtr
open Go Go.Lib Adr
def dl (t : List UInt8) : Nat := (t.takeWhile isDig).length
theorem dl_le (t : List UInt8) : dl t ≤ t.length := (List.takeWhile_prefix _).length_le
theorem take_is (t : List UInt8) : t.takeWhile isDig = t.take (dl t) := by
 exact List.prefix_iff_eq_take.1 (List.takeWhile_prefix _)
theorem drop_is (t : List UInt8) : t.dropWhile isDig = t.drop (dl t) := by
 have h : (t.takeWhile isDig ++ t.dropWhile isDig).drop (dl t) = t.dropWhile isDig := List.drop_left
 rw [List.takeWhile_append_dropWhile] at h
 exact h.symm
theorem dl_dig {t : List UInt8} {i : Nat} (h : i < dl t) : ∃ h2 : i < t.length, isDig t[i] = true := by
 have h2 : i < t.length := Nat.lt_of_lt_of_le h (dl_le t)
 refine ⟨h2, ?_⟩
 have hm : t[i] ∈ t.takeWhile isDig := by
  rw [take_is]
  rw [List.mem_iff_getElem]
  exact ⟨i, by simp; omega, by simp⟩
 exact List.all_eq_true.1 List.all_takeWhile _ hm
theorem dl_stop {t : List UInt8} (h : dl t < t.length) : isDig t[dl t] = false := by
 have e := drop_is t
 rw [List.drop_eq_getElem_cons h] at e
 cases hd : isDig t[dl t] with
 | false => rfl
 | true =>
   exfalso
   have : ∀ l : List UInt8, ∀ c r, l.dropWhile isDig = c :: r → isDig c = false := by
    intro l
    induction l with
    | nil => intro c r h; cases h
    | cons x l ih =>
      intro c r h
      rw [List.dropWhile_cons] at h
      split at h
      · exact ih c r h
      · injection h with h1 h2; subst h1; rename_i hx; simpa using hx
   rw [this t _ _ e] at hd; cases hd
theorem int_of {t : List UInt8} : intOk (t.takeWhile isDig) = (decide (1 ≤ dl t) && decide (dl t ≤ 6) && (decide (dl t = 1) || !(t.head? == some 48))) := by
 have hall : (t.takeWhile isDig).all isDig = true := List.all_takeWhile
 have hhead : 1 ≤ dl t → (t.takeWhile isDig).head? = t.head? := by
  intro h
  rw [take_is]
  cases t with
  | nil => rfl
  | cons c r => obtain ⟨k, hk⟩ : ∃ k, dl (c :: r) = k + 1 := ⟨dl (c :: r) - 1, by omega⟩; rw [hk]; rfl
 rw [Bool.eq_iff_iff]
 unfold intOk
 simp only [Bool.and_eq_true, Bool.or_eq_true, decide_eq_true_eq, Bool.not_eq_true', beq_eq_false_iff_ne]
 rw [canon_iff]
 have hlen : (t.takeWhile isDig).length = dl t := rfl
 rw [hlen]
 constructor
 · rintro ⟨⟨h1, h2, h3, h4⟩, h6⟩
   have hd1 : 1 ≤ dl t := by
    rcases Nat.eq_zero_or_pos (dl t) with h | h
    · exact absurd (List.length_eq_zero_iff.1 (hlen.trans h)) h1
    · exact h
   refine ⟨⟨hd1, h6⟩, ?_⟩
   by_cases hd : dl t = 1
   · exact .inl hd
   · refine .inr fun e => hd (h4 48 ?_ rfl)
     rw [hhead hd1]; exact e
 · rintro ⟨⟨h1, h6⟩, h4⟩
   refine ⟨⟨?_, by omega, hall, ?_⟩, h6⟩
   · intro e; rw [e] at hlen; simp at hlen; omega
   · intro c hc h48
     subst h48
     rw [hhead h1] at hc
     rcases h4 with h4 | h4
     · exact h4
     · exact absurd hc h4
theorem dec_of (t : List UInt8) : (dec t).isSome = (intOk (t.takeWhile isDig) && (if h : dl t < t.length then t[dl t] == 46 && fracOk (t.drop (dl t + 1)) else true)) := by
 unfold dec
 rw [drop_is]
 by_cases h : dl t < t.length
 · rw [dif_pos h, List.drop_eq_getElem_cons h]
   show (if _ then _ else _ : Option Nat).isSome = _
   split
   · rename_i h2; rw [h2]; rfl
   · rename_i h2; rw [show (intOk (t.takeWhile isDig) && (t[dl t] == 46 && fracOk (t.drop (dl t + 1)))) = false by simpa using h2]; rfl
 · rw [dif_neg h, List.drop_eq_nil_of_le (by omega), Bool.and_true]
   show (if _ then _ else _ : Option Nat).isSome = _
   split
   · rename_i h2; rw [h2]; rfl
   · rename_i h2; rw [show intOk (t.takeWhile isDig) = false by simpa using h2]; rfl
theorem suffix_last (b : List UInt8) : hasSuffix b [48] = (b.getLast? == some 48) := by
 unfold hasSuffix
 rw [Bool.eq_iff_iff, List.isSuffixOf_iff_suffix, beq_iff_eq, List.getLast?_eq_some_iff]
 constructor
 · rintro ⟨t, rfl⟩; exact ⟨t, rfl⟩
 · rintro ⟨t, rfl⟩; exact ⟨t, rfl⟩
theorem dec_a {t : List UInt8} (h : dl t = 0) : (dec t).isSome = false := by
 rw [dec_of, int_of, decide_eq_false (by omega)]; rfl
theorem dec_7 {t : List UInt8} (h : 6 < dl t) : (dec t).isSome = false := by
 rw [dec_of, int_of, decide_eq_false (p := dl t ≤ 6) (by omega)]; simp
theorem dec_1 {t : List UInt8} (h : 2 ≤ dl t) (h2 : t.head? = some 48) : (dec t).isSome = false := by
 rw [dec_of, int_of, decide_eq_false (p := dl t = 1) (by omega), h2]; simp
theorem int_good {t : List UInt8} (h1 : 1 ≤ dl t) (h6 : dl t ≤ 6) (h2 : 2 ≤ dl t → t.head? ≠ some 48) : intOk (t.takeWhile isDig) = true := by
 rw [int_of, decide_eq_true h1, decide_eq_true h6]
 by_cases h : dl t = 1
 · rw [decide_eq_true h]; rfl
 · rw [show (t.head? == some 48) = false by rw [beq_eq_false_iff_ne]; exact h2 (by omega)]; simp
theorem dec_b {t : List UInt8} (h1 : 1 ≤ dl t) (h6 : dl t ≤ 6) (h2 : 2 ≤ dl t → t.head? ≠ some 48) (h : dl t = t.length) : (dec t).isSome = true := by
 rw [dec_of, int_good h1 h6 h2, dif_neg (by omega)]; rfl
theorem dec_c {t : List UInt8} (h : dl t < t.length) (hc : t[dl t] ≠ 46) : (dec t).isSome = false := by
 rw [dec_of, dif_pos h, beq_eq_false_iff_ne.2 hc]; simp
theorem dec_f {t : List UInt8} (h : dl t < t.length) (hf : fracOk (t.drop (dl t + 1)) = false) : (dec t).isSome = false := by
 rw [dec_of, dif_pos h, hf]; simp
theorem dec_g {t : List UInt8} (h1 : 1 ≤ dl t) (h6 : dl t ≤ 6) (h2 : 2 ≤ dl t → t.head? ≠ some 48) (h : dl t < t.length) (hc : t[dl t] = 46) (hf : fracOk (t.drop (dl t + 1)) = true) : (dec t).isSome = true := by
 rw [dec_of, int_good h1 h6 h2, dif_pos h, hf, hc]; rfl
theorem frac_d {t : List UInt8} (h : dl t + 1 = t.length) : fracOk (t.drop (dl t + 1)) = false := by
 rw [List.drop_eq_nil_of_le (by omega)]; rfl
theorem last_drop {t : List UInt8} {k : Nat} (h : k < t.length) : (t.drop k).getLast? = some (t[t.length - 1]'(by omega)) := by
 rw [List.getLast?_drop, if_neg (by omega), List.getLast?_eq_getElem?, List.getElem?_eq_getElem (by omega)]
theorem frac_e {t : List UInt8} (h : dl t + 1 < t.length) (h2 : t[t.length - 1]'(by omega) = 48) : fracOk (t.drop (dl t + 1)) = false := by
 unfold fracOk
 rw [suffix_last, last_drop h, h2]; simp
theorem frac_n {t : List UInt8} {i : Nat} (h1 : dl t + 1 ≤ i) (h2 : i < t.length) (h3 : isDig t[i] = false) : fracOk (t.drop (dl t + 1)) = false := by
 have : (t.drop (dl t + 1)).all isDig = false := by
  rw [List.all_eq_false]
  refine ⟨t[i], ?_, by rw [h3]; decide⟩
  rw [List.mem_iff_getElem]
  exact ⟨i - (dl t + 1), by rw [List.length_drop]; omega, by rw [List.getElem_drop]; congr 1; omega⟩
 unfold fracOk
 rw [this]; simp
theorem frac_4 {t : List UInt8} (h : dl t + 4 < t.length) : fracOk (t.drop (dl t + 1)) = false := by
 unfold fracOk
 rw [decide_eq_false (p := (t.drop (dl t + 1)).length ≤ 3) (by rw [List.length_drop]; omega)]; simp
theorem frac_y {t : List UInt8} (h : dl t + 1 < t.length) (h4 : t.length ≤ dl t + 4) (hd : ∀ j (hj : j < t.length), dl t + 1 ≤ j → isDig t[j] = true) (h2 : t[t.length - 1]'(by omega) ≠ 48) : fracOk (t.drop (dl t + 1)) = true := by
 have ha : (t.drop (dl t + 1)).all isDig = true := by
  rw [List.all_eq_true]
  intro x hx
  rw [List.mem_iff_getElem] at hx
  obtain ⟨j, hj, rfl⟩ := hx
  rw [List.length_drop] at hj
  rw [List.getElem_drop]
  exact hd _ (by omega) (by omega)
 unfold fracOk
 rw [suffix_last, last_drop h, ha, decide_eq_true (by rw [List.length_drop]; omega), decide_eq_true (by rw [List.length_drop]; omega), show (some (t[t.length - 1]'(by omega)) == some 48) = false by rw [beq_eq_false_iff_ne]; exact fun e => h2 (Option.some.inj e)]
 rfl
end Mtr
namespace Go.Proofs.YtjdknhalcpkeaaaGreatDoor
open Go Go.RowKit Mtr
theorem byte_get (T : ByteArray) {i : Nat} (h : i < T.size) : ∃ h2 : i < T.data.toList.length, T.data.toList[i] = T[i] := ⟨by rw [size_data]; exact h, rfl⟩
set_option maxHeartbeats 16000000 in
set_option maxRecDepth 100000 in
theorem refRead_any (s : ByteArray) (w : World) (hs : s.size ≤ 100000000) : Calls Tryz.prog 151 #[.string s] w (ReadEnd s.data.toList w) := by
 have HX : Hid (edgeOk s.data.toList = (decide (s.data.toList = sNan) || decide (s.data.toList = sInf) || decide (s.data.toList = sNeg))) := rfl
 have HRD : Hid (∀ e o, edgeOk s.data.toList = e → (dec (Lib.trimPrefix s.data.toList [45])).isSome = o → readOk s.data.toList = (e || o)) := fun e o h1 h2 => by unfold readOk; rw [h1, h2]
 have HRE : Hid (∀ o, readOk s.data.toList = o → ∀ f W, Below w.heap.size w W → ReadEnd s.data.toList w (.returned (.tuple #[.float .f64 f, .bool o])) W) := fun o ho f W hb => ⟨⟨f, by rw [ho]⟩, hb⟩
 have e1 := edge_eq s [110, 97, 110]
 have e2 := edge_eq s [105, 110, 102]
 have e3 := edge_eq s [45, 105, 110, 102]
 have HN := Lib.hid nan_any
 have HI := Lib.hid inf_any
 by_cases h1 : s.data.toList = sNan
 · have q1 : (s.toList == [110, 97, 110]) = true := e1.trans (decide_eq_true h1)
   have q1' : s.toList = [110, 97, 110] := by simpa using q1
   have HK := Lib.hid (HRE.out true (HRD.out true _ (by rw [HX.out, decide_eq_true h1]; rfl) rfl))
   clear e1 e2 e3 h1 HX HRD HRE
   go_enter Tryz.func151, Tryz.ntmps151
   go_wp2_with fail
   refine (HN.out w).mono ?_
   rintro e w' ⟨rfl, rfl⟩
   go_wp2
   refine bodyPost_ret (results_tmp2 rfl _ _ _) rfl ?_
   exact HK.out _ _ (Below.refl _ _)
 · have q1 : (s.toList == [110, 97, 110]) = false := e1.trans (decide_eq_false h1)
   have q1' : ¬ s.toList = [110, 97, 110] := by simpa using q1
   by_cases h2 : s.data.toList = sInf
   · have q2 : (s.toList == [105, 110, 102]) = true := e2.trans (decide_eq_true h2)
     have q2' : s.toList = [105, 110, 102] := by simpa using q2
     have HK := Lib.hid (HRE.out true (HRD.out true _ (by rw [HX.out, decide_eq_true h2]; simp) rfl))
     clear e1 e2 e3 h1 h2 HX HRD HRE
     go_enter Tryz.func151, Tryz.ntmps151
     go_wp2_with fail
     refine (HI.out 1 w).mono ?_
     rintro e w' ⟨rfl, rfl⟩
     go_wp2
     refine bodyPost_ret (results_tmp2 rfl _ _ _) rfl ?_
     exact HK.out _ _ (Below.refl _ _)
   · have q2 : (s.toList == [105, 110, 102]) = false := e2.trans (decide_eq_false h2)
     have q2' : ¬ s.toList = [105, 110, 102] := by simpa using q2
     by_cases h3 : s.data.toList = sNeg
     · have q3 : (s.toList == [45, 105, 110, 102]) = true := e3.trans (decide_eq_true h3)
       have q3' : s.toList = [45, 105, 110, 102] := by simpa using q3
       have HK := Lib.hid (HRE.out true (HRD.out true _ (by rw [HX.out, decide_eq_true h3]; simp) rfl))
       clear e1 e2 e3 h1 h2 h3 HX HRD HRE
       go_enter Tryz.func151, Tryz.ntmps151
       go_wp2_with fail
       refine (HI.out (-1) w).mono ?_
       rintro e w' ⟨rfl, rfl⟩
       go_wp2
       refine bodyPost_ret (results_tmp2 rfl _ _ _) rfl ?_
       exact HK.out _ _ (Below.refl _ _)
     · have q3 : (s.toList == [45, 105, 110, 102]) = false := e3.trans (decide_eq_false h3)
       have q3' : ¬ s.toList = [45, 105, 110, 102] := by simpa using q3
       have HED : Hid (edgeOk s.data.toList = false) := by show _ = _; rw [HX.out, decide_eq_false h1, decide_eq_false h2, decide_eq_false h3]; rfl
       have HKK : Hid (∀ o, (dec (Lib.trimPrefix s.data.toList [45])).isSome = o → ∀ f, ReadEnd s.data.toList w (.returned (.tuple #[.float .f64 f, .bool o])) w) := fun o ho f => HRE.out o (by rw [HRD.out false o HED.out ho, Bool.false_or]) f w (Below.refl _ _)
       obtain ⟨g, hg⟩ : ∃ g : Int → Nat, ∀ z W, (binOp .quo 183 (.float .f64 (floatOfInt .f64 z)) (.float .f64 4652007308841189376)).run Tryz.prog W = .ok (.float .f64 (g z)) W := ⟨fun z => (run_thousand (P := Tryz.prog) 183 z).choose, fun z => (run_thousand (P := Tryz.prog) 183 z).choose_spec⟩
       obtain ⟨ng, hneg⟩ : ∃ ng : Nat → Nat, ∀ x W, (Op.unary .neg (.float .f64 x)).run Tryz.prog W = .ok (.float .f64 (ng x)) W := ⟨_, fun _ _ => rfl⟩
       clear e1 e2 e3 h1 h2 h3 HX HRD HRE HN HI HED
       have hz := size_data s
       by_cases hsg : Lib.hasPrefix s.data.toList [45] = true
       · have h0 : 0 < s.size := by
          rw [← hz]; unfold Lib.hasPrefix at hsg
          cases hl : s.data.toList with
          | nil => rw [hl] at hsg; cases hsg
          | cons c r => simp
         have hb : ((s[0].toNat : Int) == 45) = true := by
          unfold Lib.hasPrefix at hsg
          have : s.data.toList[0]? = some 45 := by
           cases hl : s.data.toList with
           | nil => rw [hl] at hsg; cases hsg
           | cons c r => rw [hl] at hsg; simp at hsg; simp [hsg]
          obtain ⟨h2, h3⟩ := byte_get s h0
          rw [List.getElem?_eq_getElem h2, h3] at this
          injection this with this
          rw [this]; rfl
         obtain ⟨T, hT⟩ : ∃ T, s.extract 1 s.size = T := ⟨_, rfl⟩
         have HT : Hid (T.data.toList = Lib.trimPrefix s.data.toList [45]) := by
          show _ = _
          rw [← hT, Lib.extract_data]; unfold Lib.trimPrefix; rw [if_pos hsg, ← hz]
          rw [List.take_of_length_le (by simp)]; rfl
         have hTs : T.size ≤ 100000000 := by rw [← hT]; simp; omega
         rw [← HT.out] at HKK
         have h1s : 1 ≤ s.size := h0
         clear hz hsg HT
         go_enter Tryz.func151, Tryz.ntmps151
         go_wp2
         go_loopw [5, 6] (fun vn vi wr => ∃ (z : Int) (i : Nat), vn = .int .i64 z ∧ vi = .int .i64 i ∧ i ≤ dl T.data.toList ∧ i ≤ 6 ∧ (2 ≤ i → T.data.toList.head? ≠ some 48) ∧ wr = w) (fun _ vi _ => T.size - (intOf vi).toNat)
         case atStart => exact ⟨0, 0, rfl, rfl, by omega, by omega, fun h => absurd h (by omega), rfl⟩
         case round =>
          obtain ⟨z, i, rfl, rfl, hi, hi6, hhd, rfl⟩ := hrel
          have hle := dl_le T.data.toList
          have hzT := size_data T
          by_cases hlt : i < dl T.data.toList
          · obtain ⟨hd1, hd2⟩ := dl_dig hlt
            have his : i < T.size := by omega
            have hdg := (Adr.isDig_iff _).1 hd2
            have p1 : decide ((48 : Int) ≤ (T[i].toNat : Int)) = true := decide_eq_true (by have := hdg.1; show (48 : Int) ≤ ((T.data.toList[i].toNat : Nat) : Int); omega)
            have p2 : decide ((T[i].toNat : Int) ≤ 57) = true := decide_eq_true (by have := hdg.2; show ((T.data.toList[i].toNat : Nat) : Int) ≤ 57; omega)
            have h0s : 0 < T.size := by omega
            by_cases hi6' : i = 6
            · subst hi6'
              have HK := Lib.hid (HKK.out false (dec_7 hlt))
              clear HKK hdg hd2 hhd hlt hle hzT
              go_wp2
              all_goals
               refine bodyPost_ret (results_tmp2 rfl _ _ _) rfl ?_
               exact HK.out _
            · by_cases h1 : i = 1
              · subst h1
                have hhd0 : T.data.toList.head? = some T[0] := by
                 rw [List.head?_eq_getElem?, List.getElem?_eq_getElem (by rw [hzT]; omega)]; rfl
                by_cases h48 : T[0] = 48
                · have HK := Lib.hid (HKK.out false (dec_1 (by omega) (by rw [hhd0, h48])))
                  have p3 : ((T[0].toNat : Int) == 48) = true := by rw [h48]; rfl
                  clear HKK hdg hd2 hhd hlt hle hzT hhd0 h48
                  go_wp2
                  all_goals
                   refine bodyPost_ret (results_tmp2 rfl _ _ _) rfl ?_
                   exact HK.out _
                · have p3 : ((T[0].toNat : Int) == 48) = false := by
                   rw [beq_eq_false_iff_ne]; intro e; exact h48 (UInt8.toNat_inj.1 (by show _ = 48; omega))
                  have HH : Hid (2 ≤ 2 → T.data.toList.head? ≠ some 48) := fun _ e => h48 (Option.some.inj (hhd0.symm.trans e))
                  have HL : Hid (1 < dl T.data.toList) := hlt
                  clear hdg hd2 hhd hlt hhd0 h48 hle hzT
                  go_wp2_with fail
                  go_roundw
                  case rel => exact ⟨_, 2, rfl, rfl, HL.out, by omega, HH.out, by first | rfl | trivial⟩
                  case measure => first | (simp [intOf]; omega) | simp [intOf]
              · have p4 : ((i : Int) == 6) = false := by rw [beq_eq_false_iff_ne]; omega
                have p5 : ((i : Int) == 1) = false := by rw [beq_eq_false_iff_ne]; omega
                have HH : Hid (2 ≤ i + 1 → T.data.toList.head? ≠ some 48) := fun h => hhd (by omega)
                have HL : Hid (i < dl T.data.toList) := hlt
                clear hdg hd2 hhd hlt hle hzT
                go_wp2_with fail
                go_roundw
                case rel => exact ⟨_, i + 1, rfl, by go_num, HL.out, by omega, HH.out, by first | rfl | trivial⟩
                case measure => first | (simp [intOf]; omega) | simp [intOf]
          · obtain hiD : i = dl T.data.toList := by omega
            rcases Nat.eq_zero_or_pos i with hi0 | hi0
            · subst hi0
              have HK := Lib.hid (HKK.out false (dec_a hiD.symm))
              have HN : Hid (∀ h : 0 < T.size, Adr.isDig T[0] = false) := fun h => by
               have h2 : dl T.data.toList < T.data.toList.length := by rw [← hiD, hzT]; exact h
               have := dl_stop h2
               obtain ⟨h3, h4⟩ := byte_get T h
               rw [← h4]
               have e : T.data.toList[dl T.data.toList] = T.data.toList[0] := by congr 1; exact hiD.symm
               rw [← e]; exact this
              clear HKK hhd hlt hle hzT hiD
              by_cases h0s : 0 < T.size
              · have hnd := HN.out h0s
                have hnd2 : T[0].toNat < 48 ∨ 57 < T[0].toNat := by
                 have := (not_congr (Adr.isDig_iff T[0])).1 (by rw [hnd]; decide)
                 omega
                clear hnd HN
                rcases hnd2 with hnd2 | hnd2
                · have p1 : decide ((48 : Int) ≤ (T[0].toNat : Int)) = false := decide_eq_false (by omega)
                  go_wp2
                  all_goals
                   refine bodyPost_ret (results_tmp2 rfl _ _ _) rfl ?_
                   exact HK.out _
                · have p1 : decide ((48 : Int) ≤ (T[0].toNat : Int)) = true := decide_eq_true (by omega)
                  have p2 : decide ((T[0].toNat : Int) ≤ 57) = false := decide_eq_false (by omega)
                  go_wp2
                  all_goals
                   refine bodyPost_ret (results_tmp2 rfl _ _ _) rfl ?_
                   exact HK.out _
              · have hs0 : T.size = 0 := by omega
                have hs1 : ¬ (0 : Int) < (T.size : Int) := by omega
                go_wp2
                all_goals
                 refine bodyPost_ret (results_tmp2 rfl _ _ _) rfl ?_
                 exact HK.out _
            · have p0 : ((i : Int) == 0) = false := by rw [beq_eq_false_iff_ne]; omega
              by_cases his : i < T.size
              · have h2 : dl T.data.toList < T.data.toList.length := by rw [← hiD, hzT]; exact his
                have hst := dl_stop h2
                have hTi : T.data.toList[dl T.data.toList] = T[i] := by
                 obtain ⟨h3, h4⟩ := byte_get T his
                 rw [← h4]; congr 1; exact hiD.symm
                rw [hTi] at hst
                have hlt48 : T[i].toNat < 48 ∨ 57 < T[i].toNat := by
                 have := (not_congr (Adr.isDig_iff T[i])).1 (by rw [hst]; decide)
                 omega
                by_cases h46 : T[i] = 46
                · have p1 : decide ((48 : Int) ≤ (T[i].toNat : Int)) = false := decide_eq_false (by rw [h46]; decide)
                  have p3 : ((T[i].toNat : Int) == 46) = true := by rw [h46]; rfl
                  have p3b : ((T[i].toNat : Int) != 46) = false := by rw [bne, p3]; rfl
                  have p3c : (T[i].toNat : Int) = 46 := beq_iff_eq.1 p3
                  obtain ⟨q, hq⟩ : ∃ q, T.size - 1 = q := ⟨_, rfl⟩
                  have hzq : (T.size : Int) - 1 = (q : Int) := by omega
                  have hqs : q < T.size := by omega
                  have hlast : ∀ h : T.data.toList.length - 1 < T.data.toList.length, T.data.toList[T.data.toList.length - 1] = T[q] := fun h => by
                   obtain ⟨h3, h4⟩ := byte_get T hqs
                   rw [← h4]; congr 1
                  by_cases hi1 : i + 1 = T.size
                  · have HK := Lib.hid (HKK.out false (dec_f h2 (frac_d (by rw [← hiD, hzT]; exact hi1))))
                    have p6 : ((i : Int) + 1 == (T.size : Int)) = true := by rw [beq_iff_eq]; omega
                    clear HKK hhd hlt hle hzT hiD h2 hst hTi h46 hlast hlt48 hq
                    go_wp2
                    all_goals
                     refine bodyPost_ret (results_tmp2 rfl _ _ _) rfl ?_
                     exact HK.out _
                  · have p6 : ((i : Int) + 1 == (T.size : Int)) = false := by rw [beq_eq_false_iff_ne]; omega
                    by_cases hl48 : T[q] = 48
                    · have HK := Lib.hid (HKK.out false (dec_f h2 (frac_e (by rw [← hiD, hzT]; omega) (by rw [hlast]; exact hl48))))
                      have p7 : ((T[q].toNat : Int) == 48) = true := by rw [hl48]; rfl
                      clear HKK hhd hlt hle hzT hiD h2 hst hTi h46 hlast hlt48 hq hl48
                      go_wp2
                      all_goals
                       refine bodyPost_ret (results_tmp2 rfl _ _ _) rfl ?_
                       exact HK.out _
                    · have p7 : ((T[q].toNat : Int) == 48) = false := by
                       rw [beq_eq_false_iff_ne]; intro e; exact hl48 (UInt8.toNat_inj.1 (by show _ = 48; omega))
                      have HN : Hid (∀ j (hj : j < T.size), i + 1 ≤ j → Adr.isDig T[j] = false → (dec T.data.toList).isSome = false) := fun j hj h1 h3 => dec_f h2 (frac_n (i := j) (by rw [← hiD]; exact h1) (by rw [hzT]; exact hj) h3)
                      have H4 : Hid (i + 4 < T.size → (dec T.data.toList).isSome = false) := fun h => dec_f h2 (frac_4 (by rw [← hiD, hzT]; exact h))
                      have HY : Hid (T.size ≤ i + 4 → (∀ j (hj : j < T.size), i + 1 ≤ j → Adr.isDig T[j] = true) → (dec T.data.toList).isSome = true) := fun h4 hd => dec_g (by omega) (by omega) (fun h => hhd (by omega)) h2 (hTi.trans h46) (frac_y (by rw [← hiD, hzT]; omega) (by rw [← hiD, hzT]; exact h4) (fun j hj h1 => hd j (by rw [← hzT]; exact hj) (by rw [hiD]; exact h1)) (by rw [hlast]; exact hl48))
                      have hi1s : i + 1 < T.size := by omega
                      clear hhd hlt hle hzT hiD h2 hst hTi h46 hlast hlt48 hq hl48
                      go_wp2
                      go_loopw [5, 6, 7] (fun vn vi vl wq => ∃ (z : Int) (k m : Nat), vn = .int .i64 z ∧ vi = .int .i64 k ∧ vl = .int .i64 m ∧ i + 1 ≤ k ∧ k ≤ T.size ∧ m + k = i + 4 ∧ Hid (∀ j (hj : j < T.size), i + 1 ≤ j → j < k → Adr.isDig T[j] = true) ∧ wq = wr) (fun _ vi _ _ => T.size - (intOf vi).toNat)
                      case atStart => exact ⟨_, i + 1, 3, rfl, by go_num, rfl, by omega, by omega, by omega, (show ∀ j (hj : j < T.size), i + 1 ≤ j → j < i + 1 → Adr.isDig T[j] = true from fun j hj h1 h2 => absurd h2 (by omega)), rfl⟩
                      case round =>
                       obtain ⟨z2, k, m, rfl, rfl, rfl, hik, hks, hmk, HD, rfl⟩ := hrel
                       by_cases hkl : k < T.size
                       · by_cases hdk : Adr.isDig T[k] = true
                         · have hdg := (Adr.isDig_iff _).1 hdk
                           have r1 : ¬ (T[k].toNat : Int) < 48 := by omega
                           have r2 : ¬ (57 : Int) < (T[k].toNat : Int) := by omega
                           by_cases hm0 : m = 0
                           · subst hm0
                             have HK := Lib.hid (HKK.out false (H4.out (by omega)))
                             clear HKK HN H4 HY HD hdg hdk
                             go_wp2
                             all_goals
                              refine bodyPost_ret (results_tmp2 rfl _ _ _) rfl ?_
                              exact HK.out _
                           · have r3 : ((m : Int) == 0) = false := by rw [beq_eq_false_iff_ne]; omega
                             have HD2 : Hid (∀ j (hj : j < T.size), i + 1 ≤ j → j < k + 1 → Adr.isDig T[j] = true) := fun j hj h1 h2 => by
                              rcases Nat.lt_or_ge j k with h3 | h3
                              · exact HD.out j hj h1 h3
                              · obtain rfl : j = k := by omega
                                exact hdk
                             obtain ⟨m2, rfl⟩ : ∃ m2, m = m2 + 1 := ⟨m - 1, by omega⟩
                             clear HD hdg hdk hm0
                             go_wp2_with fail
                             go_roundw
                             case rel => exact ⟨_, k + 1, m2, rfl, by go_num, by go_num, by omega, by omega, by omega, HD2, by first | rfl | trivial⟩
                             case measure => first | (simp [intOf]; omega) | simp [intOf]
                         · have hdf : Adr.isDig T[k] = false := by simpa using hdk
                           have HK := Lib.hid (HKK.out false (HN.out k hkl hik hdf))
                           have hor : T[k].toNat < 48 ∨ 57 < T[k].toNat := by
                            have := (not_congr (Adr.isDig_iff T[k])).1 hdk
                            omega
                           clear HKK HN H4 HY HD hdf hdk
                           rcases hor with hor | hor
                           · have r1 : (T[k].toNat : Int) < 48 := by omega
                             go_wp2
                             all_goals
                              refine bodyPost_ret (results_tmp2 rfl _ _ _) rfl ?_
                              exact HK.out _
                           · have r1 : ¬ (T[k].toNat : Int) < 48 := by omega
                             have r2 : (57 : Int) < (T[k].toNat : Int) := by omega
                             go_wp2
                             all_goals
                              refine bodyPost_ret (results_tmp2 rfl _ _ _) rfl ?_
                              exact HK.out _
                       · have HK := Lib.hid (HKK.out true (HY.out (by omega) (fun j hj h1 => HD.out j hj h1 (by omega))))
                         have hs2 : ¬ (k : Int) < (T.size : Int) := by omega
                         have hm3 : m ≤ 3 := by omega
                         clear HKK HN H4 HY HD
                         go_wp2
                         go_loopw [5, 7] (fun vn vl wq => ∃ (z : Int) (q : Nat), vn = .int .i64 z ∧ vl = .int .i64 q ∧ q ≤ 3 ∧ wq = wr) (fun _ vl _ => (intOf vl).toNat)
                         case atStart => exact ⟨_, m, rfl, rfl, by omega, rfl⟩
                         case round =>
                          obtain ⟨z3, q3, rfl, rfl, hq3, rfl⟩ := hrel
                          by_cases hq0 : 0 < q3
                          · go_wp2_with fail
                            go_roundw
                            case rel => exact ⟨_, q3 - 1, rfl, by congr 1; omega, by omega, by first | rfl | trivial⟩
                            case measure => first | (simp [intOf]; omega) | simp [intOf]
                          · obtain rfl : q3 = 0 := by omega
                            go_wp2
                            refine bodyPost_ret (results_tmp2 rfl _ _ _) rfl ?_
                            exact HK.out _
                · have HK := Lib.hid (HKK.out false (dec_c h2 (by rw [hTi]; exact h46)))
                  have p3 : ((T[i].toNat : Int) == 46) = false := by
                   rw [beq_eq_false_iff_ne]; intro e; exact h46 (UInt8.toNat_inj.1 (by show _ = 46; omega))
                  have p3b : ((T[i].toNat : Int) != 46) = true := by rw [bne, p3]; rfl
                  have p3c : ¬ (T[i].toNat : Int) = 46 := beq_eq_false_iff_ne.1 p3
                  clear HKK hhd hlt hle hzT hiD h2 hst hTi h46
                  rcases hlt48 with hnd2 | hnd2
                  · have p1 : decide ((48 : Int) ≤ (T[i].toNat : Int)) = false := decide_eq_false (by omega)
                    go_wp2
                    all_goals
                     refine bodyPost_ret (results_tmp2 rfl _ _ _) rfl ?_
                     exact HK.out _
                  · have p1 : decide ((48 : Int) ≤ (T[i].toNat : Int)) = true := decide_eq_true (by omega)
                    have p2 : decide ((T[i].toNat : Int) ≤ 57) = false := decide_eq_false (by omega)
                    go_wp2
                    all_goals
                     refine bodyPost_ret (results_tmp2 rfl _ _ _) rfl ?_
                     exact HK.out _
              · have HK := Lib.hid (HKK.out true (dec_b (by omega) (by omega) (fun h => hhd (by omega)) (by omega)))
                have hs1 : ¬ (i : Int) < (T.size : Int) := by omega
                clear HKK hhd hlt hle hzT hiD
                go_wp2
                go_loopw [5, 7] (fun vn vl wq => ∃ (z : Int) (q : Nat), vn = .int .i64 z ∧ vl = .int .i64 q ∧ q ≤ 3 ∧ wq = wr) (fun _ vl _ => (intOf vl).toNat)
                case atStart => exact ⟨_, 3, rfl, rfl, by omega, rfl⟩
                case round =>
                 obtain ⟨z3, q3, rfl, rfl, hq3, rfl⟩ := hrel
                 by_cases hq0 : 0 < q3
                 · go_wp2_with fail
                   go_roundw
                   case rel => exact ⟨_, q3 - 1, rfl, by congr 1; omega, by omega, by first | rfl | trivial⟩
                   case measure => first | (simp [intOf]; omega) | simp [intOf]
                 · obtain rfl : q3 = 0 := by omega
                   go_wp2
                   refine bodyPost_ret (results_tmp2 rfl _ _ _) rfl ?_
                   exact HK.out _
       · have hT : s = s := rfl
         have HT : Hid (s.data.toList = Lib.trimPrefix s.data.toList [45]) := by
          show _ = _; unfold Lib.trimPrefix; rw [if_neg hsg]
         rw [← HT.out] at HKK
         clear HT hT
         by_cases h0 : 0 < s.size
         · have hb : ((s[0].toNat : Int) == 45) = false := by
            rw [beq_eq_false_iff_ne]; intro e
            have e2 : s[0] = 45 := UInt8.toNat_inj.1 (by show _ = 45; omega)
            refine hsg ?_
            obtain ⟨h2, h3⟩ := byte_get s h0
            unfold Lib.hasPrefix
            have : s.data.toList = s[0] :: s.data.toList.drop 1 := by
             rw [← h3, ← List.drop_eq_getElem_cons h2]; rfl
            rw [this, e2]; rfl
           clear hsg hz
           go_enter Tryz.func151, Tryz.ntmps151
           go_wp2
           go_loopw [5, 6] (fun vn vi wr => ∃ (z : Int) (i : Nat), vn = .int .i64 z ∧ vi = .int .i64 i ∧ i ≤ dl s.data.toList ∧ i ≤ 6 ∧ (2 ≤ i → s.data.toList.head? ≠ some 48) ∧ wr = w) (fun _ vi _ => s.size - (intOf vi).toNat)
           case atStart => exact ⟨0, 0, rfl, rfl, by omega, by omega, fun h => absurd h (by omega), rfl⟩
           case round =>
            obtain ⟨z, i, rfl, rfl, hi, hi6, hhd, rfl⟩ := hrel
            have hle := dl_le s.data.toList
            have hzT := size_data s
            by_cases hlt : i < dl s.data.toList
            · obtain ⟨hd1, hd2⟩ := dl_dig hlt
              have his : i < s.size := by omega
              have hdg := (Adr.isDig_iff _).1 hd2
              have p1 : decide ((48 : Int) ≤ (s[i].toNat : Int)) = true := decide_eq_true (by have := hdg.1; show (48 : Int) ≤ ((s.data.toList[i].toNat : Nat) : Int); omega)
              have p2 : decide ((s[i].toNat : Int) ≤ 57) = true := decide_eq_true (by have := hdg.2; show ((s.data.toList[i].toNat : Nat) : Int) ≤ 57; omega)
              have h0s : 0 < s.size := by omega
              by_cases hi6' : i = 6
              · subst hi6'
                have HK := Lib.hid (HKK.out false (dec_7 hlt))
                clear HKK hdg hd2 hhd hlt hle hzT
                go_wp2
                all_goals
                 refine bodyPost_ret (results_tmp2 rfl _ _ _) rfl ?_
                 exact HK.out _
              · by_cases h1 : i = 1
                · subst h1
                  have hhd0 : s.data.toList.head? = some s[0] := by
                   rw [List.head?_eq_getElem?, List.getElem?_eq_getElem (by rw [hzT]; omega)]; rfl
                  by_cases h48 : s[0] = 48
                  · have HK := Lib.hid (HKK.out false (dec_1 (by omega) (by rw [hhd0, h48])))
                    have p3 : ((s[0].toNat : Int) == 48) = true := by rw [h48]; rfl
                    clear HKK hdg hd2 hhd hlt hle hzT hhd0 h48
                    go_wp2
                    all_goals
                     refine bodyPost_ret (results_tmp2 rfl _ _ _) rfl ?_
                     exact HK.out _
                  · have p3 : ((s[0].toNat : Int) == 48) = false := by
                     rw [beq_eq_false_iff_ne]; intro e; exact h48 (UInt8.toNat_inj.1 (by show _ = 48; omega))
                    have HH : Hid (2 ≤ 2 → s.data.toList.head? ≠ some 48) := fun _ e => h48 (Option.some.inj (hhd0.symm.trans e))
                    have HL : Hid (1 < dl s.data.toList) := hlt
                    clear hdg hd2 hhd hlt hhd0 h48 hle hzT
                    go_wp2_with fail
                    go_roundw
                    case rel => exact ⟨_, 2, rfl, rfl, HL.out, by omega, HH.out, by first | rfl | trivial⟩
                    case measure => first | (simp [intOf]; omega) | simp [intOf]
                · have p4 : ((i : Int) == 6) = false := by rw [beq_eq_false_iff_ne]; omega
                  have p5 : ((i : Int) == 1) = false := by rw [beq_eq_false_iff_ne]; omega
                  have HH : Hid (2 ≤ i + 1 → s.data.toList.head? ≠ some 48) := fun h => hhd (by omega)
                  have HL : Hid (i < dl s.data.toList) := hlt
                  clear hdg hd2 hhd hlt hle hzT
                  go_wp2_with fail
                  go_roundw
                  case rel => exact ⟨_, i + 1, rfl, by go_num, HL.out, by omega, HH.out, by first | rfl | trivial⟩
                  case measure => first | (simp [intOf]; omega) | simp [intOf]
            · obtain hiD : i = dl s.data.toList := by omega
              rcases Nat.eq_zero_or_pos i with hi0 | hi0
              · subst hi0
                have HK := Lib.hid (HKK.out false (dec_a hiD.symm))
                have HN : Hid (∀ h : 0 < s.size, Adr.isDig s[0] = false) := fun h => by
                 have h2 : dl s.data.toList < s.data.toList.length := by rw [← hiD, hzT]; exact h
                 have := dl_stop h2
                 obtain ⟨h3, h4⟩ := byte_get s h
                 rw [← h4]
                 have e : s.data.toList[dl s.data.toList] = s.data.toList[0] := by congr 1; exact hiD.symm
                 rw [← e]; exact this
                clear HKK hhd hlt hle hzT hiD
                by_cases h0s : 0 < s.size
                · have hnd := HN.out h0s
                  have hnd2 : s[0].toNat < 48 ∨ 57 < s[0].toNat := by
                   have := (not_congr (Adr.isDig_iff s[0])).1 (by rw [hnd]; decide)
                   omega
                  clear hnd HN
                  rcases hnd2 with hnd2 | hnd2
                  · have p1 : decide ((48 : Int) ≤ (s[0].toNat : Int)) = false := decide_eq_false (by omega)
                    go_wp2
                    all_goals
                     refine bodyPost_ret (results_tmp2 rfl _ _ _) rfl ?_
                     exact HK.out _
                  · have p1 : decide ((48 : Int) ≤ (s[0].toNat : Int)) = true := decide_eq_true (by omega)
                    have p2 : decide ((s[0].toNat : Int) ≤ 57) = false := decide_eq_false (by omega)
                    go_wp2
                    all_goals
                     refine bodyPost_ret (results_tmp2 rfl _ _ _) rfl ?_
                     exact HK.out _
                · have hs0 : s.size = 0 := by omega
                  have hs1 : ¬ (0 : Int) < (s.size : Int) := by omega
                  go_wp2
                  all_goals
                   refine bodyPost_ret (results_tmp2 rfl _ _ _) rfl ?_
                   exact HK.out _
              · have p0 : ((i : Int) == 0) = false := by rw [beq_eq_false_iff_ne]; omega
                by_cases his : i < s.size
                · have h2 : dl s.data.toList < s.data.toList.length := by rw [← hiD, hzT]; exact his
                  have hst := dl_stop h2
                  have hTi : s.data.toList[dl s.data.toList] = s[i] := by
                   obtain ⟨h3, h4⟩ := byte_get s his
                   rw [← h4]; congr 1; exact hiD.symm
                  rw [hTi] at hst
                  have hlt48 : s[i].toNat < 48 ∨ 57 < s[i].toNat := by
                   have := (not_congr (Adr.isDig_iff s[i])).1 (by rw [hst]; decide)
                   omega
                  by_cases h46 : s[i] = 46
                  · have p1 : decide ((48 : Int) ≤ (s[i].toNat : Int)) = false := decide_eq_false (by rw [h46]; decide)
                    have p3 : ((s[i].toNat : Int) == 46) = true := by rw [h46]; rfl
                    have p3b : ((s[i].toNat : Int) != 46) = false := by rw [bne, p3]; rfl
                    have p3c : (s[i].toNat : Int) = 46 := beq_iff_eq.1 p3
                    obtain ⟨q, hq⟩ : ∃ q, s.size - 1 = q := ⟨_, rfl⟩
                    have hzq : (s.size : Int) - 1 = (q : Int) := by omega
                    have hqs : q < s.size := by omega
                    have hlast : ∀ h : s.data.toList.length - 1 < s.data.toList.length, s.data.toList[s.data.toList.length - 1] = s[q] := fun h => by
                     obtain ⟨h3, h4⟩ := byte_get s hqs
                     rw [← h4]; congr 1
                    by_cases hi1 : i + 1 = s.size
                    · have HK := Lib.hid (HKK.out false (dec_f h2 (frac_d (by rw [← hiD, hzT]; exact hi1))))
                      have p6 : ((i : Int) + 1 == (s.size : Int)) = true := by rw [beq_iff_eq]; omega
                      clear HKK hhd hlt hle hzT hiD h2 hst hTi h46 hlast hlt48 hq
                      go_wp2
                      all_goals
                       refine bodyPost_ret (results_tmp2 rfl _ _ _) rfl ?_
                       exact HK.out _
                    · have p6 : ((i : Int) + 1 == (s.size : Int)) = false := by rw [beq_eq_false_iff_ne]; omega
                      by_cases hl48 : s[q] = 48
                      · have HK := Lib.hid (HKK.out false (dec_f h2 (frac_e (by rw [← hiD, hzT]; omega) (by rw [hlast]; exact hl48))))
                        have p7 : ((s[q].toNat : Int) == 48) = true := by rw [hl48]; rfl
                        clear HKK hhd hlt hle hzT hiD h2 hst hTi h46 hlast hlt48 hq hl48
                        go_wp2
                        all_goals
                         refine bodyPost_ret (results_tmp2 rfl _ _ _) rfl ?_
                         exact HK.out _
                      · have p7 : ((s[q].toNat : Int) == 48) = false := by
                         rw [beq_eq_false_iff_ne]; intro e; exact hl48 (UInt8.toNat_inj.1 (by show _ = 48; omega))
                        have HN : Hid (∀ j (hj : j < s.size), i + 1 ≤ j → Adr.isDig s[j] = false → (dec s.data.toList).isSome = false) := fun j hj h1 h3 => dec_f h2 (frac_n (i := j) (by rw [← hiD]; exact h1) (by rw [hzT]; exact hj) h3)
                        have H4 : Hid (i + 4 < s.size → (dec s.data.toList).isSome = false) := fun h => dec_f h2 (frac_4 (by rw [← hiD, hzT]; exact h))
                        have HY : Hid (s.size ≤ i + 4 → (∀ j (hj : j < s.size), i + 1 ≤ j → Adr.isDig s[j] = true) → (dec s.data.toList).isSome = true) := fun h4 hd => dec_g (by omega) (by omega) (fun h => hhd (by omega)) h2 (hTi.trans h46) (frac_y (by rw [← hiD, hzT]; omega) (by rw [← hiD, hzT]; exact h4) (fun j hj h1 => hd j (by rw [← hzT]; exact hj) (by rw [hiD]; exact h1)) (by rw [hlast]; exact hl48))
                        have hi1s : i + 1 < s.size := by omega
                        clear hhd hlt hle hzT hiD h2 hst hTi h46 hlast hlt48 hq hl48
                        go_wp2
                        go_loopw [5, 6, 7] (fun vn vi vl wq => ∃ (z : Int) (k m : Nat), vn = .int .i64 z ∧ vi = .int .i64 k ∧ vl = .int .i64 m ∧ i + 1 ≤ k ∧ k ≤ s.size ∧ m + k = i + 4 ∧ Hid (∀ j (hj : j < s.size), i + 1 ≤ j → j < k → Adr.isDig s[j] = true) ∧ wq = wr) (fun _ vi _ _ => s.size - (intOf vi).toNat)
                        case atStart => exact ⟨_, i + 1, 3, rfl, by go_num, rfl, by omega, by omega, by omega, (show ∀ j (hj : j < s.size), i + 1 ≤ j → j < i + 1 → Adr.isDig s[j] = true from fun j hj h1 h2 => absurd h2 (by omega)), rfl⟩
                        case round =>
                         obtain ⟨z2, k, m, rfl, rfl, rfl, hik, hks, hmk, HD, rfl⟩ := hrel
                         by_cases hkl : k < s.size
                         · by_cases hdk : Adr.isDig s[k] = true
                           · have hdg := (Adr.isDig_iff _).1 hdk
                             have r1 : ¬ (s[k].toNat : Int) < 48 := by omega
                             have r2 : ¬ (57 : Int) < (s[k].toNat : Int) := by omega
                             by_cases hm0 : m = 0
                             · subst hm0
                               have HK := Lib.hid (HKK.out false (H4.out (by omega)))
                               clear HKK HN H4 HY HD hdg hdk
                               go_wp2
                               all_goals
                                refine bodyPost_ret (results_tmp2 rfl _ _ _) rfl ?_
                                exact HK.out _
                             · have r3 : ((m : Int) == 0) = false := by rw [beq_eq_false_iff_ne]; omega
                               have HD2 : Hid (∀ j (hj : j < s.size), i + 1 ≤ j → j < k + 1 → Adr.isDig s[j] = true) := fun j hj h1 h2 => by
                                rcases Nat.lt_or_ge j k with h3 | h3
                                · exact HD.out j hj h1 h3
                                · obtain rfl : j = k := by omega
                                  exact hdk
                               obtain ⟨m2, rfl⟩ : ∃ m2, m = m2 + 1 := ⟨m - 1, by omega⟩
                               clear HD hdg hdk hm0
                               go_wp2_with fail
                               go_roundw
                               case rel => exact ⟨_, k + 1, m2, rfl, by go_num, by go_num, by omega, by omega, by omega, HD2, by first | rfl | trivial⟩
                               case measure => first | (simp [intOf]; omega) | simp [intOf]
                           · have hdf : Adr.isDig s[k] = false := by simpa using hdk
                             have HK := Lib.hid (HKK.out false (HN.out k hkl hik hdf))
                             have hor : s[k].toNat < 48 ∨ 57 < s[k].toNat := by
                              have := (not_congr (Adr.isDig_iff s[k])).1 hdk
                              omega
                             clear HKK HN H4 HY HD hdf hdk
                             rcases hor with hor | hor
                             · have r1 : (s[k].toNat : Int) < 48 := by omega
                               go_wp2
                               all_goals
                                refine bodyPost_ret (results_tmp2 rfl _ _ _) rfl ?_
                                exact HK.out _
                             · have r1 : ¬ (s[k].toNat : Int) < 48 := by omega
                               have r2 : (57 : Int) < (s[k].toNat : Int) := by omega
                               go_wp2
                               all_goals
                                refine bodyPost_ret (results_tmp2 rfl _ _ _) rfl ?_
                                exact HK.out _
                         · have HK := Lib.hid (HKK.out true (HY.out (by omega) (fun j hj h1 => HD.out j hj h1 (by omega))))
                           have hs2 : ¬ (k : Int) < (s.size : Int) := by omega
                           have hm3 : m ≤ 3 := by omega
                           clear HKK HN H4 HY HD
                           go_wp2
                           go_loopw [5, 7] (fun vn vl wq => ∃ (z : Int) (q : Nat), vn = .int .i64 z ∧ vl = .int .i64 q ∧ q ≤ 3 ∧ wq = wr) (fun _ vl _ => (intOf vl).toNat)
                           case atStart => exact ⟨_, m, rfl, rfl, by omega, rfl⟩
                           case round =>
                            obtain ⟨z3, q3, rfl, rfl, hq3, rfl⟩ := hrel
                            by_cases hq0 : 0 < q3
                            · go_wp2_with fail
                              go_roundw
                              case rel => exact ⟨_, q3 - 1, rfl, by congr 1; omega, by omega, by first | rfl | trivial⟩
                              case measure => first | (simp [intOf]; omega) | simp [intOf]
                            · obtain rfl : q3 = 0 := by omega
                              go_wp2
                              refine bodyPost_ret (results_tmp2 rfl _ _ _) rfl ?_
                              exact HK.out _
                  · have HK := Lib.hid (HKK.out false (dec_c h2 (by rw [hTi]; exact h46)))
                    have p3 : ((s[i].toNat : Int) == 46) = false := by
                     rw [beq_eq_false_iff_ne]; intro e; exact h46 (UInt8.toNat_inj.1 (by show _ = 46; omega))
                    have p3b : ((s[i].toNat : Int) != 46) = true := by rw [bne, p3]; rfl
                    have p3c : ¬ (s[i].toNat : Int) = 46 := beq_eq_false_iff_ne.1 p3
                    clear HKK hhd hlt hle hzT hiD h2 hst hTi h46
                    rcases hlt48 with hnd2 | hnd2
                    · have p1 : decide ((48 : Int) ≤ (s[i].toNat : Int)) = false := decide_eq_false (by omega)
                      go_wp2
                      all_goals
                       refine bodyPost_ret (results_tmp2 rfl _ _ _) rfl ?_
                       exact HK.out _
                    · have p1 : decide ((48 : Int) ≤ (s[i].toNat : Int)) = true := decide_eq_true (by omega)
                      have p2 : decide ((s[i].toNat : Int) ≤ 57) = false := decide_eq_false (by omega)
                      go_wp2
                      all_goals
                       refine bodyPost_ret (results_tmp2 rfl _ _ _) rfl ?_
                       exact HK.out _
                · have HK := Lib.hid (HKK.out true (dec_b (by omega) (by omega) (fun h => hhd (by omega)) (by omega)))
                  have hs1 : ¬ (i : Int) < (s.size : Int) := by omega
                  clear HKK hhd hlt hle hzT hiD
                  go_wp2
                  go_loopw [5, 7] (fun vn vl wq => ∃ (z : Int) (q : Nat), vn = .int .i64 z ∧ vl = .int .i64 q ∧ q ≤ 3 ∧ wq = wr) (fun _ vl _ => (intOf vl).toNat)
                  case atStart => exact ⟨_, 3, rfl, rfl, by omega, rfl⟩
                  case round =>
                   obtain ⟨z3, q3, rfl, rfl, hq3, rfl⟩ := hrel
                   by_cases hq0 : 0 < q3
                   · go_wp2_with fail
                     go_roundw
                     case rel => exact ⟨_, q3 - 1, rfl, by congr 1; omega, by omega, by first | rfl | trivial⟩
                     case measure => first | (simp [intOf]; omega) | simp [intOf]
                   · obtain rfl : q3 = 0 := by omega
                     go_wp2
                     refine bodyPost_ret (results_tmp2 rfl _ _ _) rfl ?_
                     exact HK.out _
         · have hs00 : s.size = 0 := by omega
           have hd0 : dl s.data.toList = 0 := by have := dl_le s.data.toList; omega
           have HK := Lib.hid (HKK.out false (dec_a hd0))
           clear hsg hz HKK hd0
           go_enter Tryz.func151, Tryz.ntmps151
           go_wp2
           go_loopw [5, 6] (fun vn vi wr => vn = .int .i64 0 ∧ vi = .int .i64 0 ∧ wr = w) (fun _ _ _ => 0)
           case atStart => exact ⟨rfl, rfl, rfl⟩
           case round =>
            obtain ⟨rfl, rfl, rfl⟩ := hrel
            go_wp2
            refine bodyPost_ret (results_tmp2 rfl _ _ _) rfl ?_
            exact HK.out _
end Go.Proofs.YtjdknhalcpkeaaaGreatDoor
