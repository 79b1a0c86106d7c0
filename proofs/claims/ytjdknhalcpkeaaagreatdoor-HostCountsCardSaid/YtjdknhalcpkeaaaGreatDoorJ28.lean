/- A walk: lex.blanks. A walk: lex.token. A walk: lex.All, of a text without quotes. -/
import Derived.WalkMore
import Derived.Test.YtjdknhalcpkeaaaGreatDoorJ27
namespace Lx
open Go Go.Lib
theorem index_fit (l sub : List UInt8) : Lib.index l sub = -1 ∨ Lib.index l sub + sub.length ≤ l.length := by
 induction l with
 | nil =>
   unfold Lib.index
   cases sub with
   | nil => right; simp
   | cons a b => left; rfl
 | cons b l ih =>
   unfold Lib.index
   by_cases h1 : sub.isPrefixOf (b :: l) = true
   · rw [if_pos h1]; right
     have := (List.isPrefixOf_iff_prefix.1 h1).length_le
     omega
   · rw [if_neg h1]
     by_cases h2 : (Lib.index l sub == -1) = true
     · rw [if_pos h2]; left; rfl
     · rw [if_neg h2]; right
       rcases ih with h | h
       · rw [h] at h2; exact absurd rfl h2
       · simp only [List.length_cons]; omega
theorem com_at {l : List UInt8} {p : Nat} (hp : p < l.length) : comB l p < 0 ∨ comB l p = (p : Int) ∨ ((p : Int) < comB l p ∧ comB l p ≤ (l.length : Int)) := by
 unfold comB
 simp only
 have hd : l.drop p = l[p] :: l.drop (p + 1) := List.drop_eq_getElem_cons hp
 have hlen : (l.drop p).length = l.length - p := List.length_drop
 by_cases h1 : hasPrefix (l.drop p) [35] = true
 · rw [if_pos h1]
   by_cases h2 : indexByte (l.drop p) 10 < 0
   · rw [if_pos h2]; right; right; omega
   · rw [if_neg h2]; right; right
     have hc : l[p] = 35 := by
      rw [hd] at h1
      have := (List.isPrefixOf_iff_prefix.1 h1)
      exact (List.cons_prefix_cons.1 this).1.symm
     have h3 := indexByte_lt (l.drop p) 10
     rw [hlen] at h3
     have h4 : indexByte (l.drop p) 10 ≠ 0 := by
      rw [hd, hc]
      unfold indexByte
      rw [if_neg (by decide)]
      have := indexByte_ge (l.drop (p + 1)) 10
      split
      · omega
      · rename_i hh
        have : indexByte (l.drop (p + 1)) 10 ≠ -1 := fun e => hh (by rw [e]; rfl)
        omega
     omega
 · rw [if_neg h1]
   by_cases h2 : hasPrefix (l.drop p) [47, 42] = true
   · rw [if_pos h2]
     by_cases h3 : index ((l.drop p).drop 2) [42, 47] < 0
     · rw [if_pos h3]; left; omega
     · rw [if_neg h3]; right; right
       have := index_fit ((l.drop p).drop 2) [42, 47]
       simp only [List.length_drop, List.length_cons, List.length_nil] at this
       omega
   · rw [if_neg h2]; right; left; rfl
theorem blanks_le (s : List UInt8) : ∀ (f p : Nat), p ≤ s.length → (blanksB s f p).1 ≤ s.length ∧ p ≤ (blanksB s f p).1
 | 0, p, h => by unfold blanksB; exact ⟨h, Nat.le_refl _⟩
 | f + 1, p, h => by
   unfold blanksB
   by_cases h1 : p < s.length
   · rw [if_pos h1]
     by_cases h2 : blankB (s.getD p 0) = true
     · rw [if_pos h2]; have := blanks_le s f (p + 1) (by omega); omega
     · rw [if_neg h2]
       by_cases h3 : comB s p < 0
       · rw [if_pos h3]; exact ⟨h, Nat.le_refl _⟩
       · rw [if_neg h3]
         by_cases h4 : comB s p = (p : Int)
         · rw [if_pos h4]; exact ⟨h, Nat.le_refl _⟩
         · rw [if_neg h4]
           have hc := com_at h1
           have := blanks_le s f (comB s p).toNat (by omega)
           omega
   · rw [if_neg h1]; exact ⟨h, Nat.le_refl _⟩
end Lx
namespace Go.Proofs.YtjdknhalcpkeaaaGreatDoor
open Go Go.RowKit Go.Sort Lx
theorem blank_num (c : UInt8) : blankB c = (decide (c.toNat = 32) || decide (c.toNat = 9) || decide (c.toNat = 10) || decide (c.toNat = 13)) := by
 unfold blankB
 have e : ∀ d : UInt8, (c == d) = decide (c.toNat = d.toNat) := fun d => by
  rw [Bool.eq_iff_iff, beq_iff_eq, decide_eq_true_eq]
  exact ⟨fun h => by rw [h], fun h => UInt8.toNat_inj.1 h⟩
 rw [e, e, e, e]; rfl
theorem getD_at {s : ByteArray} {k : Nat} (h : k < s.size) : s.data.toList.getD k 0 = s[k] := by
 rw [List.getD_eq_getElem?_getD, List.getElem?_eq_getElem (by rw [size_data]; exact h)]; rfl
def blRet (r : Nat × Bool) : Value := .tuple #[.int .i64 r.1, .bool r.2]
theorem blank_step {s : ByteArray} {q f : Nat} (hq : q < s.size) : blanksB s.data.toList (f + 1) q = if blankB s[q] = true then blanksB s.data.toList f (q + 1) else if comB s.data.toList q < 0 then (q, false) else if comB s.data.toList q = (q : Int) then (q, true) else blanksB s.data.toList f (comB s.data.toList q).toNat := by
 show (if q < s.data.toList.length then _ else _) = _
 rw [if_pos (by rw [size_data]; exact hq), getD_at hq]
set_option maxHeartbeats 4000000 in
set_option maxRecDepth 100000 in
theorem blanks_any (s : ByteArray) (p : Nat) (w : World) (hE : Env w) (hs : s.size ≤ 1000000000) (hp : p ≤ s.size) :
 Calls Tryz.prog 83 #[.string s, .int .i64 p] w fun e w' => e = .returned (blRet (blanksB s.data.toList (s.size + 1) p)) ∧ w' = w := by
 have HC := Lib.hid (fun q (hq : q ≤ s.size) => comment_any s q w hE hs hq)
 have HA : Hid (∀ q, q < s.size → comB s.data.toList q < 0 ∨ comB s.data.toList q = (q : Int) ∨ ((q : Int) < comB s.data.toList q ∧ comB s.data.toList q ≤ (s.size : Int))) := fun q hq => by
  have := com_at (l := s.data.toList) (p := q) (by rw [size_data]; exact hq)
  rwa [size_data] at this
 clear hE
 go_enter Tryz.func83, Tryz.ntmps83
 go_wp2
 go_step3
 go_wp2
 go_step3
 go_wp2
 go_loopw [1] (fun vi wr => ∃ q f : Nat, q ≤ s.size ∧ s.size - q < f ∧ vi = .int .i64 q ∧ wr = w ∧ Hid (blanksB s.data.toList (s.size + 1) p = blanksB s.data.toList f q)) (fun vi _ => s.size - (intOf vi).toNat)
 case atStart => exact ⟨p, s.size + 1, hp, by omega, rfl, rfl, rfl⟩
 case round =>
  obtain ⟨q, f, hq, hf, rfl, rfl, HQ⟩ := hrel
  by_cases hlt : q < s.size
  · obtain ⟨g, rfl⟩ : ∃ g, f = g + 1 := ⟨f - 1, by omega⟩
    have hst := HQ.out.trans (blank_step hlt)
    have HCq := Lib.hid (HC.out q hq)
    have ha := HA.out q hlt
    have hbn := blank_num s[q]
    have hc256 := s[q].toNat_lt
    clear HQ HC HA
    generalize comB s.data.toList q = m at *
    have HST := Lib.hid hst
    clear hst
    by_cases hbl : blankB s[q] = true
    · have HN : Hid (blanksB s.data.toList (s.size + 1) p = blanksB s.data.toList g (q + 1)) := by show _ = _; rw [HST.out, if_pos hbl]
      rw [hbl] at hbn
      clear HST hbl HCq ha
      have h4 : s[q].toNat = 32 ∨ s[q].toNat = 9 ∨ s[q].toNat = 10 ∨ s[q].toNat = 13 := by
       have := hbn.symm
       simp only [Bool.or_eq_true, decide_eq_true_eq] at this
       omega
      clear hbn hc256
      rcases h4 with h4 | h4 | h4 | h4
      all_goals
       go_wp2
       all_goals
        go_roundw
        case rel => exact ⟨q + 1, g, by omega, by omega, by go_num, by simp, HN⟩
        case measure => simp [intOf]; omega
    · have hbf : blankB s[q] = false := by simpa using hbl
      rw [hbf] at hbn
      have HST2 : Hid (blanksB s.data.toList (s.size + 1) p = if m < 0 then (q, false) else if m = (q : Int) then (q, true) else blanksB s.data.toList g m.toNat) := by show _ = _; rw [HST.out, if_neg hbl]
      clear HST hbl hbf
      have h4 : s[q].toNat ≠ 32 ∧ s[q].toNat ≠ 9 ∧ s[q].toNat ≠ 10 ∧ s[q].toNat ≠ 13 := by
       have := hbn.symm
       simp only [Bool.or_eq_false_iff, decide_eq_false_iff_not] at this
       omega
      clear hbn
      have g1 : ((s[q].toNat : Int) == 32) = false := by rw [beq_eq_false_iff_ne]; omega
      have g2 : ((s[q].toNat : Int) == 9) = false := by rw [beq_eq_false_iff_ne]; omega
      have g3 : ((s[q].toNat : Int) == 10) = false := by rw [beq_eq_false_iff_ne]; omega
      have g4 : ((s[q].toNat : Int) == 13) = false := by rw [beq_eq_false_iff_ne]; omega
      clear h4 hc256
      by_cases hm0 : m < 0
      · have HN : Hid (blanksB s.data.toList (s.size + 1) p = (q, false)) := by show _ = _; rw [HST2.out, if_pos hm0]
        clear HST2 ha
        go_wp2_with (go_at_call 125; refine HCq.out.mono ?_; rintro e w' ⟨rfl, rfl⟩)
        all_goals
         try rw [Exit.noGoto_ret]
         exact bodyPost_ret (v := blRet (q, false)) (by simp [results, Tryz.results83, go_sem, blRet]) rfl ⟨by rw [HN.out], rfl⟩
      · by_cases hmq : m = (q : Int)
        · have HN : Hid (blanksB s.data.toList (s.size + 1) p = (q, true)) := by show _ = _; rw [HST2.out, if_neg hm0, if_pos hmq]
          subst hmq
          clear HST2 ha
          go_wp2_with (go_at_call 125; refine HCq.out.mono ?_; rintro e w' ⟨rfl, rfl⟩)
          all_goals
           try rw [Exit.noGoto_ret]
           exact bodyPost_ret (v := blRet (q, true)) (by simp [results, Tryz.results83, go_sem, blRet]) rfl ⟨by rw [HN.out], rfl⟩
        · have HN : Hid (blanksB s.data.toList (s.size + 1) p = blanksB s.data.toList g m.toNat) := by show _ = _; rw [HST2.out, if_neg hm0, if_neg hmq]
          obtain ⟨k, rfl⟩ : ∃ k : Nat, m = (k : Int) := ⟨m.toNat, by omega⟩
          have hk1 : q < k ∧ k ≤ s.size := by omega
          have hkq : ((k : Int) == (q : Int)) = false := by rw [beq_eq_false_iff_ne]; omega
          have HN2 : Hid (blanksB s.data.toList (s.size + 1) p = blanksB s.data.toList g k) := HN
          clear HST2 ha hmq HN
          go_wp2_with (go_at_call 125; refine HCq.out.mono ?_; rintro e w' ⟨rfl, rfl⟩)
          go_roundw
          case rel => exact ⟨k, g, hk1.2, by omega, by go_num, by simp, HN2⟩
          case measure => simp [intOf]; omega
  · obtain rfl : q = s.size := by omega
    obtain ⟨g, rfl⟩ : ∃ g, f = g + 1 := ⟨f - 1, by omega⟩
    have HN : Hid (blanksB s.data.toList (s.size + 1) p = (s.size, true)) := by
     show _ = _
     rw [HQ.out]
     show (if s.size < s.data.toList.length then _ else _) = _
     rw [if_neg (by rw [size_data]; omega)]
    clear HQ
    go_wp2
    all_goals
     try rw [Exit.noGoto_ret]
     exact bodyPost_ret (v := blRet (s.size, true)) (by simp [results, Tryz.results83, go_sem, blRet]) rfl ⟨by rw [HN.out], rfl⟩
end Go.Proofs.YtjdknhalcpkeaaaGreatDoor
namespace Lx
open Go
def Tok.cells (t : Tok) : List Value := [.int .i64 t.kind, .int .i64 t.at_, .string t.word, .int .i64 t.bit]
def Tok.agg (t : Tok) : Value := .agg #[.int .i64 t.kind, .int .i64 t.at_, .string t.word, .int .i64 t.bit]
def toks (L : List Tok) : List Value := L.flatMap Tok.cells
theorem toks_length (L : List Tok) : (toks L).length = L.length * 4 := by
 unfold toks
 induction L with
 | nil => rfl
 | cons e L ih => simp only [List.flatMap_cons, List.length_append, ih, List.length_cons, Tok.cells]; simp; omega
theorem toks_get (L : List Tok) (i j : Nat) (hi : i < L.length) (hj : j < 4) : (toks L)[i * 4 + j]? = (L[i].cells)[j]? := by
 unfold toks
 induction L generalizing i with
 | nil => cases hi
 | cons e L ih =>
   cases i with
   | zero => rw [List.flatMap_cons, List.getElem?_append_left (by simp [Tok.cells]; omega)]; simp
   | succ i =>
     rw [List.flatMap_cons, List.getElem?_append_right (by simp [Tok.cells]; omega), show (i + 1) * 4 + j - e.cells.length = i * 4 + j by simp [Tok.cells]; omega]
     simpa using ih i (by simpa using hi)
theorem toks_append (L M : List Tok) : toks (L ++ M) = toks L ++ toks M := by unfold toks; simp
theorem toks_one (e : Tok) : toks [e] = e.cells := by unfold toks; simp
theorem tok_cells (e : Tok) : ∀ u ∈ e.cells, u.oneCell' = true := by
 intro u hu
 simp only [Tok.cells, List.mem_cons, List.not_mem_nil, or_false] at hu
 rcases hu with rfl | rfl | rfl | rfl <;> rfl
def tokRet (r : Tok × Nat × Int) : Value := .tuple #[r.1.agg, .int .i64 r.2.1, .int .i64 r.2.2]
theorem tokB_at {s : List UInt8} {p : Nat} {c : UInt8} (hc : s.getD p 0 = c) : tokB s p = if 0 < signsB c then (⟨signsB c, p, ⟨#[]⟩, 0⟩, p + 1, 0)
 else if scanB (s.drop p) = 0 then (⟨0, 0, ⟨#[]⟩, 0⟩, 0, 2)
 else if 0 < bitB ((s.drop p).take (scanB (s.drop p))) then (⟨5, p, ⟨#[]⟩, bitB ((s.drop p).take (scanB (s.drop p)))⟩, p + scanB (s.drop p), 0)
 else (⟨1, p, ⟨(unqB ((s.drop p).take (scanB (s.drop p)))).1.toArray⟩, 0⟩, p + scanB (s.drop p), (unqB ((s.drop p).take (scanB (s.drop p)))).2) := by
 unfold tokB
 rw [hc]
end Lx
namespace Go.Proofs.YtjdknhalcpkeaaaGreatDoor
open Go Go.RowKit Go.Sort Lx
set_option maxHeartbeats 2000000 in
theorem token_any (s : ByteArray) (p : Nat) (w : World) (hs : s.size ≤ 1000000000) (hp : p < s.size) (h34 : ∀ c ∈ s.data.toList, c ≠ 34) :
 Calls Tryz.prog 84 #[.string s, .int .i64 p] w fun e w' => e = .returned (tokRet (tokB s.data.toList p)) ∧ Below w.heap.size w w' := by
 have hc34 : s[p] ≠ 34 := h34 _ (by rw [← bytes_get hp]; exact List.getElem_mem _)
 have hT := tokB_at (getD_at hp)
 have hG := fun W => signs_any s[p] W
 have hS := fun W => scan_any s p W hs hp hc34
 have hle := scanB_le (s.data.toList.drop p)
 rw [List.length_drop, size_data] at hle
 have hxd : ∀ n, (s.extract p (p + n)).data.toList = (s.data.toList.drop p).take n := fun n => by
  rw [Lib.extract_data]; congr 1; omega
 have hB := fun n W => bit_any (s.extract p (p + n)) W
 have hU := fun n (h0 : 0 < n) (hn : p + n ≤ s.size) W => unquote_any (s.extract p (p + n)) W (by rw [ext_size p _ hn]; omega) (by rw [ext_size p _ hn]; omega) (h34 _ (by
  have : (s.extract p (p + n))[0]'(by rw [ext_size p _ hn]; omega) ∈ (s.extract p (p + n)).data.toList := by
   rw [← bytes_get (by rw [ext_size p _ hn]; omega)]; exact List.getElem_mem _
  rw [hxd] at this
  exact List.mem_of_mem_drop (List.mem_of_mem_take this)))
 simp only [hxd] at hB hU
 generalize hn : scanB (s.data.toList.drop p) = n at *
 have HT := Lib.hid hT
 have HG := Lib.hid hG
 have HS := Lib.hid hS
 have HB := Lib.hid (hB n)
 have HU := Lib.hid (hU n)
 clear hT hG hS hB hU hxd h34 hc34 hn
 generalize (s.data.toList.drop p).take n = t at *
 generalize bitB t = bt at *
 generalize unqB t = u at *
 generalize signsB s[p] = sg at *
 clear t
 obtain ⟨w1, hw1⟩ : ∃ w1, w.alloc (.cells #[.int .i64 0, .int .i64 0, .string ⟨#[]⟩, .int .i64 0] 88) = w1 := ⟨_, rfl⟩
 have hB1 : Hid (Below w.heap.size w w1) := by show Below _ _ _; rw [← hw1]; exact (Below.refl _ _).alloc (Nat.le_refl _) _
 obtain ⟨wb, hwb⟩ : ∃ wb, w.heap.size = wb := ⟨_, rfl⟩
 have c0 : w1.cell? ⟨wb, 0, none⟩ = some (.int .i64 0) := by rw [← hw1, World.cell?_alloc_at _ _ _ _ hwb.symm]; rfl
 have c1 : w1.cell? ⟨wb, 1, none⟩ = some (.int .i64 0) := by rw [← hw1, World.cell?_alloc_at _ _ _ _ hwb.symm]; rfl
 have c2 : w1.cell? ⟨wb, 2, none⟩ = some (.string ⟨#[]⟩) := by rw [← hw1, World.cell?_alloc_at _ _ _ _ hwb.symm]; rfl
 have c3 : w1.cell? ⟨wb, 3, none⟩ = some (.int .i64 0) := by rw [← hw1, World.cell?_alloc_at _ _ _ _ hwb.symm]; rfl
 have zf : ∀ o, w1.frozen? ⟨wb, o, none⟩ = false := fun o => by rw [← hw1, ← hwb]; simp
 have HWB := Lib.hid hwb
 go_enter Tryz.func84, Tryz.ntmps84
 by_cases hsg : 0 < sg
 · have HK : Hid (tokB s.data.toList p = (⟨sg, p, ⟨#[]⟩, 0⟩, p + 1, 0)) := by show _ = _; rw [HT.out, if_pos hsg]
   clear HT HS HB HU hle
   go_wp2_with (go_at_call 126; refine (HG.out _).mono ?_; rintro e w' ⟨rfl, rfl⟩)
   refine bodyPost_ret (v := tokRet (⟨sg, p, ⟨#[]⟩, 0⟩, p + 1, 0)) (by simp [results, Tryz.results84, go_sem, c0, c1, c2, c3, tokRet, Tok.agg]) rfl ⟨by rw [HK.out], ?_⟩
   repeat (first | exact hB1.out | refine Below.setCell ?_ (by show w.heap.size ≤ wb; rw [HWB.out]; omega) _)
 · have HT2 := HT.out
   rw [if_neg hsg] at HT2
   by_cases hn0 : n = 0
   · subst hn0
     have HK : Hid (tokB s.data.toList p = (⟨0, 0, ⟨#[]⟩, 0⟩, 0, 2)) := by show _ = _; rw [HT2, if_pos rfl]
     clear HT HT2 HB HU hle
     go_wp2_with (first | (go_at_call 126; refine (HG.out _).mono ?_; rintro e w' ⟨rfl, rfl⟩) | (go_at_call 127; refine (HS.out _).mono ?_; unfold scanRet; rintro e w' ⟨rfl, rfl⟩))
     refine bodyPost_ret (v := tokRet (⟨0, 0, ⟨#[]⟩, 0⟩, 0, 2)) (by simp [results, Tryz.results84, go_sem, c0, c1, c2, c3, tokRet, Tok.agg]) rfl ⟨by rw [HK.out], ?_⟩
     repeat (first | exact hB1.out | refine Below.setCell ?_ (by show w.heap.size ≤ wb; rw [HWB.out]; omega) _)
   · rw [if_neg hn0] at HT2
     have hpn : p + n ≤ s.size := by omega
     have HU2 := Lib.hid (HU.out (by omega) hpn)
     have HS2 : Hid (∀ W, Calls Tryz.prog 127 #[.string s, .int .i64 p] W fun e w' => e = .returned (.tuple #[.int .i64 ((p + n : Nat) : Int), .bool true]) ∧ w' = W) := fun W => (HS.out W).mono fun e w' ⟨h1, h2⟩ => ⟨by rw [h1]; unfold scanRet; rw [if_neg hn0, decide_eq_true (by omega : 0 < n)], h2⟩
     by_cases hbt : 0 < bt
     · have HK : Hid (tokB s.data.toList p = (⟨5, p, ⟨#[]⟩, bt⟩, p + n, 0)) := by show _ = _; rw [HT2, if_pos hbt]
       clear HT HT2 HS HU HU2 hle
       obtain ⟨q, hq⟩ : ∃ q, p + n = q := ⟨_, rfl⟩
       have hpq : p ≤ q := by omega
       rw [hq] at HS2 HK hpn HB
       clear hq
       go_wp2_with (first | (go_at_call 126; refine (HG.out _).mono ?_; rintro e w' ⟨rfl, rfl⟩) | (go_at_call 127; refine (HS2.out _).mono ?_; rintro e w' ⟨rfl, rfl⟩) | (go_at_call 128; refine (HB.out _).mono ?_; rintro e w' ⟨rfl, rfl⟩))
       refine bodyPost_ret (v := tokRet (⟨5, p, ⟨#[]⟩, bt⟩, q, 0)) (by simp [results, Tryz.results84, go_sem, c0, c1, c2, c3, tokRet, Tok.agg]) rfl ⟨by rw [HK.out], ?_⟩
       repeat (first | exact hB1.out | refine Below.setCell ?_ (by show w.heap.size ≤ wb; rw [HWB.out]; omega) _)
     · rw [if_neg hbt] at HT2
       have HK := Lib.hid HT2
       clear HT HT2 HS HU hle
       obtain ⟨q, hq⟩ : ∃ q, p + n = q := ⟨_, rfl⟩
       have hpq : p ≤ q := by omega
       rw [hq] at HS2 HK hpn HB HU2
       clear hq
       obtain ⟨u1, u2⟩ := u
       go_wp2_with (first | (go_at_call 126; refine (HG.out _).mono ?_; rintro e w' ⟨rfl, rfl⟩) | (go_at_call 127; refine (HS2.out _).mono ?_; rintro e w' ⟨rfl, rfl⟩) | (go_at_call 128; refine (HB.out _).mono ?_; rintro e w' ⟨rfl, rfl⟩) | (go_at_call 129; refine (HU2.out _).mono ?_; unfold unqRet; rintro e w' ⟨rfl, rfl⟩))
       refine bodyPost_ret (v := tokRet (⟨1, p, ⟨u1.toArray⟩, 0⟩, q, u2)) (by simp [results, Tryz.results84, go_sem, c0, c1, c2, c3, tokRet, Tok.agg]) rfl ⟨by rw [HK.out], ?_⟩
       repeat (first | exact hB1.out | refine Below.setCell ?_ (by show w.heap.size ≤ wb; rw [HWB.out]; omega) _)
end Go.Proofs.YtjdknhalcpkeaaaGreatDoor
namespace Lx
open Go
theorem tok_next {s : List UInt8} {p : Nat} (hp : p < s.length) (h : (tokB s p).2.2 = 0) : p < (tokB s p).2.1 ∧ (tokB s p).2.1 ≤ s.length := by
 have hle := scanB_le (s.drop p)
 rw [List.length_drop] at hle
 unfold tokB at h ⊢
 by_cases h1 : 0 < signsB (s.getD p 0)
 · rw [if_pos h1]
   show p < p + 1 ∧ p + 1 ≤ s.length
   omega
 · rw [if_neg h1] at h ⊢
   by_cases h2 : scanB (s.drop p) = 0
   · rw [if_pos h2] at h; simp at h
   · rw [if_neg h2]
     simp only
     split
     · show p < p + scanB (s.drop p) ∧ p + scanB (s.drop p) ≤ s.length
       omega
     · show p < p + scanB (s.drop p) ∧ p + scanB (s.drop p) ≤ s.length
       omega
section
variable {s : List UInt8} {f p : Nat} {out : List Tok}
theorem all_no (h : (blanksB s (s.length + 1) p).2 = false) : allGo s (f + 1) p out = ([], (blanksB s (s.length + 1) p).1, 2) := by
 show (if (blanksB s (s.length + 1) p).2 = false then _ else _) = _
 rw [if_pos h]
theorem all_end (h : (blanksB s (s.length + 1) p).2 = true) (h1 : (blanksB s (s.length + 1) p).1 = s.length) : allGo s (f + 1) p out = (out, 0, 0) := by
 show (if (blanksB s (s.length + 1) p).2 = false then _ else if (blanksB s (s.length + 1) p).1 = s.length then _ else _) = _
 rw [if_neg (by rw [h]; simp), if_pos h1]
theorem all_err (h : (blanksB s (s.length + 1) p).2 = true) (h1 : (blanksB s (s.length + 1) p).1 ≠ s.length) (h2 : (tokB s (blanksB s (s.length + 1) p).1).2.2 ≠ 0) :
 allGo s (f + 1) p out = ([], (blanksB s (s.length + 1) p).1, (tokB s (blanksB s (s.length + 1) p).1).2.2) := by
 show (if (blanksB s (s.length + 1) p).2 = false then _ else if (blanksB s (s.length + 1) p).1 = s.length then _ else if (tokB s (blanksB s (s.length + 1) p).1).2.2 ≠ 0 then _ else _) = _
 rw [if_neg (by rw [h]; simp), if_neg h1, if_pos h2]
theorem all_go (h : (blanksB s (s.length + 1) p).2 = true) (h1 : (blanksB s (s.length + 1) p).1 ≠ s.length) (h2 : (tokB s (blanksB s (s.length + 1) p).1).2.2 = 0) :
 allGo s (f + 1) p out = allGo s f (tokB s (blanksB s (s.length + 1) p).1).2.1 (out ++ [(tokB s (blanksB s (s.length + 1) p).1).1]) := by
 show (if (blanksB s (s.length + 1) p).2 = false then _ else if (blanksB s (s.length + 1) p).1 = s.length then _ else if (tokB s (blanksB s (s.length + 1) p).1).2.2 ≠ 0 then _ else _) = _
 rw [if_neg (by rw [h]; simp), if_neg h1, if_neg (by rw [h2]; simp)]
end
end Lx
namespace Go.Proofs.YtjdknhalcpkeaaaGreatDoor
open Go Go.RowKit Go.Sort Lx
theorem info_tok : (Tryz.prog.info? 88).map (fun i => (i.zero, i.size, i.bytes)) = some (some (.agg #[.int .i64 0, .int .i64 0, .string ⟨#[]⟩, .int .i64 0]), 4, 40) := by kernel_rfl
def AllEnd (s : ByteArray) (w : World) (e : Ending) (w' : World) : Prop :=
 (∃ v, e = .returned (.tuple #[v, .int .i64 (allB s.data.toList).2.1, .int .i64 (allB s.data.toList).2.2]) ∧ w'.ownsRow w.heap.size 88 4 v (allB s.data.toList).1.length (toks (allB s.data.toList).1)) ∧ Below w.heap.size w w'
theorem own_push_tok {w : World} {base : Nat} {T : TypeId} {v : Value} {l : List Tok} {t : Tok} (h : w.ownsRow base T 4 v (l.length + 1) (toks l ++ t.cells)) : w.ownsRow base T 4 v (l ++ [t]).length (toks (l ++ [t])) := by
 rw [toks_append, toks_one, List.length_append]; exact h
set_option maxHeartbeats 4000000 in
set_option maxRecDepth 100000 in
theorem all_any (s : ByteArray) (w : World) (hE : Env w) (hs : s.size ≤ 1000000) (h34 : ∀ c ∈ s.data.toList, c ≠ 34) :
 Calls Tryz.prog 52 #[.string s] w (AllEnd s w) := by
 obtain ⟨i0, hi, hz0, hz1, hz2⟩ := info_parts info_tok
 have hl := size_data s
 have HBl := Lib.hid (fun q W (hb : Below w.heap.size w W) (hq : q ≤ s.size) => blanks_any s q W (hE.below hb) (by omega) hq)
 have HTk := Lib.hid (fun q W (hq : q < s.size) => token_any s q W (by omega) hq h34)
 have HLE : Hid (∀ q, q ≤ s.size → (blanksB s.data.toList (s.size + 1) q).1 ≤ s.size ∧ q ≤ (blanksB s.data.toList (s.size + 1) q).1) := fun q hq => by
  have := blanks_le s.data.toList (s.size + 1) q (by rw [hl]; exact hq)
  rwa [hl] at this
 have HTN : Hid (∀ p, p < s.size → (tokB s.data.toList p).2.2 = 0 → p < (tokB s.data.toList p).2.1 ∧ (tokB s.data.toList p).2.1 ≤ s.size) := fun p hp h0 => by
  have := tok_next (s := s.data.toList) (p := p) (by rw [hl]; exact hp) h0
  rwa [hl] at this
 have A0 : Hid (∀ f p out, (blanksB s.data.toList (s.size + 1) p).2 = false → allGo s.data.toList (f + 1) p out = ([], (blanksB s.data.toList (s.size + 1) p).1, 2)) := fun f p out h => by
  have := all_no (s := s.data.toList) (f := f) (p := p) (out := out)
  rw [hl] at this; exact this h
 have A1 : Hid (∀ f p out, (blanksB s.data.toList (s.size + 1) p).2 = true → (blanksB s.data.toList (s.size + 1) p).1 = s.size → allGo s.data.toList (f + 1) p out = (out, 0, 0)) := fun f p out h h1 => by
  have := all_end (s := s.data.toList) (f := f) (p := p) (out := out)
  rw [hl] at this; exact this h h1
 have A2 : Hid (∀ f p out, (blanksB s.data.toList (s.size + 1) p).2 = true → (blanksB s.data.toList (s.size + 1) p).1 ≠ s.size → (tokB s.data.toList (blanksB s.data.toList (s.size + 1) p).1).2.2 ≠ 0 →
  allGo s.data.toList (f + 1) p out = ([], (blanksB s.data.toList (s.size + 1) p).1, (tokB s.data.toList (blanksB s.data.toList (s.size + 1) p).1).2.2)) := fun f p out h h1 h2 => by
  have := all_err (s := s.data.toList) (f := f) (p := p) (out := out)
  rw [hl] at this; exact this h h1 h2
 have A3 : Hid (∀ f p out, (blanksB s.data.toList (s.size + 1) p).2 = true → (blanksB s.data.toList (s.size + 1) p).1 ≠ s.size → (tokB s.data.toList (blanksB s.data.toList (s.size + 1) p).1).2.2 = 0 →
  allGo s.data.toList (f + 1) p out = allGo s.data.toList f (tokB s.data.toList (blanksB s.data.toList (s.size + 1) p).1).2.1 (out ++ [(tokB s.data.toList (blanksB s.data.toList (s.size + 1) p).1).1])) := fun f p out h h1 h2 => by
  have := all_go (s := s.data.toList) (f := f) (p := p) (out := out)
  rw [hl] at this; exact this h h1 h2
 have HQ0 : Hid (allB s.data.toList = allGo s.data.toList (s.size + 1) 0 []) := by
  show _ = _
  unfold allB; rw [hl]
 unfold AllEnd
 generalize allB s.data.toList = R at *
 clear hE h34 hl
 go_enter Tryz.func52, Tryz.ntmps52
 go_wp2
 go_loopw [5, 6] (fun v vi wr => ∃ (q f : Nat) (out : List Tok), q ≤ s.size ∧ s.size - q < f ∧ vi = .int .i64 q ∧ out.length ≤ q ∧ Hid (R = allGo s.data.toList f q out) ∧ Hid (wr.ownsRow w.heap.size 88 4 v out.length (toks out)) ∧ Hid (Below w.heap.size w wr)) (fun _ vi _ => s.size - (intOf vi).toNat)
 case atStart => exact ⟨0, s.size + 1, [], Nat.zero_le _, by omega, rfl, Nat.le_refl _, HQ0, World.ownsRow_nil _ _ _ _, Below.refl _ _⟩
 case round =>
  clear HQ0
  obtain ⟨q, f, out, hq, hf, rfl, hol, HQ, HO, HB⟩ := hrel
  obtain ⟨g, rfl⟩ : ∃ g, f = g + 1 := ⟨f - 1, by omega⟩
  have HBq := Lib.hid (HBl.out q wr HB.out hq)
  have hle := HLE.out q hq
  have a0 := A0.out g q out
  have a1 := A1.out g q out
  have a2 := A2.out g q out
  have a3 := A3.out g q out
  rw [← HQ.out] at a0 a1 a2 a3
  generalize blanksB s.data.toList (s.size + 1) q = b at *
  obtain ⟨b1, b2⟩ := b
  simp only at hle a0 a1 a2 a3
  have HBb : Hid (Calls Tryz.prog 83 #[.string s, .int .i64 q] wr fun e w' => e = .returned (.tuple #[.int .i64 b1, .bool b2]) ∧ w' = wr) := HBq.out
  clear HBq HQ HBl HLE A0 A1 A2 A3
  cases b2 with
  | false =>
    have HK := Lib.hid (a0 rfl)
    clear a0 a1 a2 a3 HTk HTN
    go_wp2_with (go_at_call 83; refine HBb.out.mono ?_; rintro e w' ⟨rfl, rfl⟩)
    refine bodyPost_ret (v := .tuple #[.slice none 0 0, .int .i64 b1, .int .i64 2]) (by simp [results, Tryz.results52, go_sem]) rfl ⟨⟨_, by rw [HK.out], ?_⟩, HB.out⟩
    rw [HK.out]; exact World.ownsRow_nil _ _ _ _
  | true =>
    by_cases hend : b1 = s.size
    · subst hend
      have HK := Lib.hid (a1 rfl rfl)
      clear a0 a1 a2 a3 HTk HTN
      go_wp2_with (go_at_call 83; refine HBb.out.mono ?_; rintro e w' ⟨rfl, rfl⟩)
      refine bodyPost_ret (results_tmp3 rfl _ _ _) rfl ⟨?_, HB.out⟩
      rw [HK.out]
      exact ⟨_, rfl, HO.out⟩
    · have hb1 : b1 < s.size := by omega
      have hbe : ((b1 : Int) == (s.size : Int)) = false := by rw [beq_eq_false_iff_ne]; omega
      have HTb := Lib.hid (HTk.out b1 wr hb1)
      have hnx := HTN.out b1 hb1
      have a2 := a2 rfl hend
      have a3 := a3 rfl hend
      clear a0 a1 HTk HTN
      generalize tokB s.data.toList b1 = t at *
      obtain ⟨t1, t2, t3⟩ := t
      simp only at hnx a2 a3
      have HTc : Hid (Calls Tryz.prog 84 #[.string s, .int .i64 b1] wr fun e w' => e = .returned (.tuple #[.agg #[.int .i64 t1.kind, .int .i64 t1.at_, .string t1.word, .int .i64 t1.bit], .int .i64 t2, .int .i64 t3]) ∧ Below wr.heap.size wr w') := HTb.out
      clear HTb
      by_cases h0 : t3 = 0
      · subst h0
        have HK := Lib.hid (a3 rfl)
        obtain ⟨hn1, hn2⟩ := hnx rfl
        clear a2 a3 hnx
        go_wp2_with (first | (go_at_call 83; refine HBb.out.mono ?_; rintro e w' ⟨rfl, rfl⟩) | (go_at_call 84; refine HTc.out.mono ?_; rintro e w2 ⟨rfl, hb2⟩; have HO2 := Lib.hid ((own_below HO.out hb2).alloc (.cells #[.int .i64 t1.kind, .int .i64 t1.at_, .string t1.word, .int .i64 t1.bit] 88)); have HB2 := Lib.hid ((below_step HB.out hb2).alloc (below_step HB.out hb2).size (.cells #[.int .i64 t1.kind, .int .i64 t1.at_, .string t1.word, .int .i64 t1.bit] 88)); clear hb2 HO HB) | (at_builtin; refine app_new rfl _ _ 81 rfl w _ 88 i0 _ 4 40 Tryz.underlying81 hi hz0 hz1 hz2 rfl (by decide) (by decide) HO2.out HB2.out rfl 1 1 t1.cells (by show Value.slice (some ⟨_, 0, none⟩) 1 1 = _; simp) rfl (tok_cells _) (by omega) ?_; intro v' w' hown' hb'))
        have HO3 := Lib.hid (own_push_tok hown')
        have HB3 := Lib.hid hb'
        clear hown' hb'
        go_roundw
        case rel => exact ⟨t2, g, out ++ [t1], hn2, by omega, by go_num, by rw [List.length_append]; simp; omega, HK, HO3, HB3⟩
        case measure => simp [intOf]; omega
      · have HK := Lib.hid (a2 h0)
        have h0' : (t3 == 0) = false := by rw [beq_eq_false_iff_ne]; exact h0
        clear a2 a3 hnx
        go_wp2_with (first | (go_at_call 83; refine HBb.out.mono ?_; rintro e w' ⟨rfl, rfl⟩) | (go_at_call 84; refine HTc.out.mono ?_; rintro e w2 ⟨rfl, hb2⟩; have HB2 := Lib.hid (below_step HB.out hb2); clear hb2 HO HB))
        refine bodyPost_ret (v := .tuple #[.slice none 0 0, .int .i64 b1, .int .i64 t3]) (by simp [results, Tryz.results52, go_sem]) rfl ⟨⟨_, by rw [HK.out], ?_⟩, ?_⟩
        · rw [HK.out]; exact World.ownsRow_nil _ _ _ _
        · exact HB2.out.alloc HB2.out.size _
end Go.Proofs.YtjdknhalcpkeaaaGreatDoor
