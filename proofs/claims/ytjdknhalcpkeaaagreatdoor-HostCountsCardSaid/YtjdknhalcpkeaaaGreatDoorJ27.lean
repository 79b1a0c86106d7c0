/- Plain: what a text is made of (layers 1 and 2), byte by byte. No program in sight. Walks: word.bare, word.run, word.mark, word.Scan. Walks: word.Scan and word.Unquote (of a text without quotes), lex.signs, lex.bit. Walks: word.Unquote (of a text that no quote begins), lex.comment, lex.blanks. -/
import Derived.Lib.IndexBytes
import Derived.Test.YtjdknhalcpkeaaaGreatDoorJ00
import Derived.Test.YtjdknhalcpkeaaaGreatDoorJ03
import Derived.Test.YtjdknhalcpkeaaaGreatDoorJ01
import Derived.Test.YtjdknhalcpkeaaaGreatDoorJ04
import Derived.Test.YtjdknhalcpkeaaaGreatDoorJ11
namespace Lx
open Go Go.Lib
def bareB (c : UInt8) : Bool := (decide (97 ≤ c.toNat) && decide (c.toNat ≤ 122)) || (decide (65 ≤ c.toNat) && decide (c.toNat ≤ 90)) || (decide (48 ≤ c.toNat) && decide (c.toNat ≤ 57)) || decide (0 ≤ indexByte [45, 95, 46, 47, 58, 42] c)
def runB : List UInt8 → Nat
 | [] => 0
 | c :: l => if bareB c then runB l + 1 else 0
def wInactive : List UInt8 := [105, 110, 97, 99, 116, 105, 118, 101, 58]
def wProtect : List UInt8 := [112, 114, 111, 116, 101, 99, 116, 58]
def markB (l : List UInt8) : Bool := decide (l = wInactive) || decide (l = wProtect) || hasPrefix l [47, 42]
def quoteB : List UInt8 → Option Nat
 | [] => none
 | c :: l => if c = 92 then (match l with | [] => none | _ :: r => (quoteB r).map (· + 2)) else if c = 34 then some 1 else (quoteB l).map (· + 1)
def scanB : List UInt8 → Nat
 | [] => 0
 | c :: l => if c = 34 then (match quoteB l with | some n => n + 1 | none => 0) else runB (c :: l)
def hexL : List UInt8 := [48, 49, 50, 51, 52, 53, 54, 55, 56, 57, 97, 98, 99, 100, 101, 102]
def pieceB : List UInt8 → UInt8 × Nat
 | [] => (0, 0)
 | c :: l =>
   if c = 34 ∨ c.toNat < 32 ∨ 126 < c.toNat then (0, 0)
   else if c ≠ 92 then (c, 1)
   else match l with
    | [] => (0, 0)
    | d :: r =>
      if d = 34 ∨ d = 92 then (d, 2)
      else if d ≠ 120 then (0, 0)
      else match r with
       | x :: y :: _ => if indexByte hexL x < 0 ∨ indexByte hexL y < 0 then (0, 0) else (UInt8.ofNat ((indexByte hexL x).toNat * 16 + (indexByte hexL y).toNat), 4)
       | _ => (0, 0)
def innerB : Nat → List UInt8 → Option (List UInt8)
 | _, [] => some []
 | 0, _ :: _ => none
 | f + 1, c :: l => if (pieceB (c :: l)).2 = 0 then none else (innerB f ((c :: l).drop (pieceB (c :: l)).2)).map ((pieceB (c :: l)).1 :: ·)
def unqB (l : List UInt8) : List UInt8 × Int :=
 let r : Option (List UInt8) :=
  if decide (1 < l.length) && decide (l.getD 0 0 = 34) && decide (l.getD (l.length - 1) 0 = 34) then innerB l.length ((l.drop 1).take (l.length - 2))
  else if decide (l ≠ []) && decide (runB l = l.length) && !(markB l) then some l else none
 match r with
 | none => ([], 2)
 | some s => if 40 < s.length then ([], 5) else (s, 0)
structure Tok where
 kind : Int
 at_ : Int
 word : ByteArray
 bit : Int
def signsB (c : UInt8) : Int := if c = 123 then 2 else if c = 125 then 3 else if c = 59 then 4 else 0
def bitB (l : List UInt8) : Int := if l = wInactive then 1 else if l = wProtect then 2 else 0
def blankB (c : UInt8) : Bool := c == 32 || c == 9 || c == 10 || c == 13
def comB (s : List UInt8) (p : Nat) : Int :=
 let t := s.drop p
 if hasPrefix t [35] then (if indexByte t 10 < 0 then (s.length : Int) else (p : Int) + indexByte t 10)
 else if hasPrefix t [47, 42] then (if index (t.drop 2) [42, 47] < 0 then -1 else (p : Int) + index (t.drop 2) [42, 47] + 4)
 else (p : Int)
def blanksB (s : List UInt8) : Nat → Nat → Nat × Bool
 | 0, p => (p, true)
 | f + 1, p =>
   if p < s.length then
    if blankB (s.getD p 0) then blanksB s f (p + 1)
    else if comB s p < 0 then (p, false)
    else if comB s p = (p : Int) then (p, true)
    else blanksB s f (comB s p).toNat
   else (p, true)
def tokB (s : List UInt8) (p : Nat) : Tok × Nat × Int :=
 if 0 < signsB (s.getD p 0) then (⟨signsB (s.getD p 0), p, ⟨#[]⟩, 0⟩, p + 1, 0)
 else if scanB (s.drop p) = 0 then (⟨0, 0, ⟨#[]⟩, 0⟩, 0, 2)
 else
  let t := (s.drop p).take (scanB (s.drop p))
  if 0 < bitB t then (⟨5, p, ⟨#[]⟩, bitB t⟩, p + scanB (s.drop p), 0)
  else (⟨1, p, ⟨(unqB t).1.toArray⟩, 0⟩, p + scanB (s.drop p), (unqB t).2)
def allGo (s : List UInt8) : Nat → Nat → List Tok → List Tok × Nat × Int
 | 0, _, out => (out, 0, 0)
 | f + 1, p, out =>
   let b := blanksB s (s.length + 1) p
   if b.2 = false then ([], b.1, 2)
   else if b.1 = s.length then (out, 0, 0)
   else
    let t := tokB s b.1
    if t.2.2 ≠ 0 then ([], b.1, t.2.2) else allGo s f t.2.1 (out ++ [t.1])
def allB (s : List UInt8) : List Tok × Nat × Int := allGo s (s.length + 1) 0 []
theorem runB_le : ∀ l : List UInt8, runB l ≤ l.length
 | [] => Nat.le_refl _
 | c :: l => by
   unfold runB
   have := runB_le l
   split
   · simp; omega
   · simp
theorem quoteB_le : ∀ (l : List UInt8) (n : Nat), quoteB l = some n → 1 ≤ n ∧ n ≤ l.length
 | [], n, h => by simp [quoteB] at h
 | [c], n, h => by
   unfold quoteB at h
   split at h
   · simp at h
   · split at h
     · simp at h; simp; omega
     · simp [quoteB] at h
 | c :: d :: r, n, h => by
   unfold quoteB at h
   split at h
   · cases hq : quoteB r with
     | none => simp [hq] at h
     | some m => have := quoteB_le r m hq; simp [hq] at h; simp; omega
   · split at h
     · simp at h; simp; omega
     · cases hq : quoteB (d :: r) with
       | none => simp [hq] at h
       | some m => have := quoteB_le (d :: r) m hq; simp [hq] at h; simp at this ⊢; omega
theorem scanB_le (l : List UInt8) : scanB l ≤ l.length := by
 cases l with
 | nil => exact Nat.le_refl _
 | cons c l =>
   show (if c = 34 then (match quoteB l with | some n => n + 1 | none => 0) else runB (c :: l)) ≤ _
   by_cases h : c = 34
   · rw [if_pos h]
     cases hq : quoteB l with
     | none => simp
     | some n => have := quoteB_le l n hq; simp; omega
   · rw [if_neg h]; exact runB_le _
theorem indexByte_lt (l : List UInt8) (c : UInt8) : indexByte l c < (l.length : Int) ∨ indexByte l c = -1 := by
 by_cases h : c ∈ l
 · left
   rw [← index_one]
   obtain ⟨a, r, rfl, ha⟩ := Adr.first_at c l h
   rw [Adr.index_at c a r ha]; simp; omega
 · right
   rw [← index_one]; exact Adr.index_miss c l h
theorem index_one_le (l : List UInt8) (c : UInt8) : indexByte l c ≤ (l.length : Int) := by
 rcases indexByte_lt l c with h | h <;> omega
end Lx
namespace Go.Proofs.YtjdknhalcpkeaaaGreatDoor
open Go Go.RowKit Go.Sort Lx
theorem indexByte_at (l : List UInt8) (c : UInt8) : Lib.indexByte l (((c.toNat : Int)).toNat).toUInt8 = Lib.indexByte l c := by
 congr 1; simp
set_option maxHeartbeats 1000000 in
theorem bare_any (c : UInt8) (w : World) : Calls Tryz.prog 184 #[.int .u8 (c.toNat : Int)] w fun e w' => e = .returned (.bool (bareB c)) ∧ w' = w := by
 have hc256 := c.toNat_lt
 have HI := Tryz.strings_IndexByte ⟨#[45, 95, 46, 47, 58, 42]⟩ (c.toNat : Int) w
 rw [indexByte_at] at HI
 have HX : Hid (bareB c = ((decide (97 ≤ c.toNat) && decide (c.toNat ≤ 122)) || (decide (65 ≤ c.toNat) && decide (c.toNat ≤ 90)) || (decide (48 ≤ c.toNat) && decide (c.toNat ≤ 57)) || decide (0 ≤ Lib.indexByte [45, 95, 46, 47, 58, 42] c))) := rfl
 have HI2 : Hid (Calls Tryz.prog 159 #[.string ⟨#[45, 95, 46, 47, 58, 42]⟩, .int .u8 (c.toNat : Int)] w fun e w' => e = .returned (.int .i64 (Lib.indexByte [45, 95, 46, 47, 58, 42] c)) ∧ w' = w) := HI
 clear HI
 generalize Lib.indexByte [45, 95, 46, 47, 58, 42] c = q at *
 generalize c.toNat = n at *
 go_enter Tryz.func184, Tryz.ntmps184
 go_wp2_with (go_at_call 159; refine HI2.out.mono ?_; rintro e w' ⟨rfl, rfl⟩)
 all_goals
  go_ret
  refine ⟨ret_bool ?_, rfl⟩
  rw [HX.out, Bool.eq_iff_iff]
  simp only [Bool.or_eq_true, Bool.and_eq_true, decide_eq_true_eq]
  first | omega | (simp; omega)
theorem bytes_get {s : ByteArray} {k : Nat} (h : k < s.size) : s.data.toList[k]'(by rw [size_data]; exact h) = s[k] := rfl
theorem drop_at {s : ByteArray} {k : Nat} (h : k < s.size) : s.data.toList.drop k = s[k] :: s.data.toList.drop (k + 1) := List.drop_eq_getElem_cons (by rw [size_data]; exact h)
set_option maxHeartbeats 1000000 in
theorem run_any (s : ByteArray) (w : World) (hs : s.size ≤ 1000000000) : Calls Tryz.prog 161 #[.string s] w fun e w' => e = .returned (.int .i64 (runB s.data.toList : Nat)) ∧ w' = w := by
 have HB := Lib.hid (fun c => bare_any c w)
 go_enter Tryz.func161, Tryz.ntmps161
 go_wp2
 go_loopw [3] (fun vi wr => ∃ k : Nat, k ≤ s.size ∧ vi = .int .i64 k ∧ wr = w ∧ Hid (runB s.data.toList = k + runB (s.data.toList.drop k))) (fun vi _ => s.size - (intOf vi).toNat)
 case atStart => exact ⟨0, Nat.zero_le _, rfl, rfl, by show _ = _; simp⟩
 case round =>
  obtain ⟨k, hk, rfl, rfl, HQ⟩ := hrel
  by_cases hlt : k < s.size
  · have hd := drop_at hlt
    have hst : Hid (runB s.data.toList = k + (if bareB s[k] = true then runB (s.data.toList.drop (k + 1)) + 1 else 0)) := by
     show _ = _; rw [HQ.out, hd]; rfl
    have HC := Lib.hid (HB.out s[k])
    clear HQ hd
    generalize bareB s[k] = b at *
    cases b with
    | true =>
      have HN : Hid (runB s.data.toList = (k + 1) + runB (s.data.toList.drop (k + 1))) := by show _ = _; rw [hst.out, if_pos rfl]; omega
      clear hst
      go_wp2_with (go_at_call 184; refine HC.out.mono ?_; rintro e w' ⟨rfl, rfl⟩)
      go_roundw
      case rel => exact ⟨k + 1, by omega, by go_num, by simp, HN⟩
      case measure => simp [intOf]; omega
    | false =>
      have HN : Hid (runB s.data.toList = k) := by show _ = _; rw [hst.out, if_neg (by decide)]; rfl
      clear hst
      go_wp2_with (go_at_call 184; refine HC.out.mono ?_; rintro e w' ⟨rfl, rfl⟩)
      go_ret
      exact ⟨by rw [HN.out]; rfl, rfl⟩
  · obtain rfl : k = s.size := by omega
    have HN : Hid (runB s.data.toList = s.size) := by show _ = _; rw [HQ.out, List.drop_eq_nil_of_le (by rw [size_data]; exact Nat.le_refl _)]; rfl
    clear HQ
    go_wp2
    go_ret
    exact ⟨by rw [HN.out]; rfl, rfl⟩
theorem list_eq_of (s : ByteArray) (l : List UInt8) : (s.toList == l) = decide (s.data.toList = l) := by
 rw [Lib.toList_data, Bool.eq_iff_iff, beq_iff_eq, decide_eq_true_eq]
set_option maxHeartbeats 1000000 in
theorem mark_any (s : ByteArray) (w : World) : Calls Tryz.prog 162 #[.string s] w fun e w' => e = .returned (.bool (markB s.data.toList)) ∧ w' = w := by
 have HP := Lib.hid (Tryz.strings_HasPrefix s ⟨#[47, 42]⟩ w)
 have HX : Hid (markB s.data.toList = (decide (s.data.toList = wInactive) || decide (s.data.toList = wProtect) || Lib.hasPrefix s.data.toList [47, 42])) := rfl
 have q1 : (s.toList == [105, 110, 97, 99, 116, 105, 118, 101, 58]) = decide (s.data.toList = wInactive) := list_eq_of s _
 have q2 : (s.toList == [112, 114, 111, 116, 101, 99, 116, 58]) = decide (s.data.toList = wProtect) := list_eq_of s _
 have p1 : decide (s.toList = [105, 110, 97, 99, 116, 105, 118, 101, 58]) = decide (s.data.toList = wInactive) := by rw [← q1, Bool.eq_iff_iff, decide_eq_true_eq, beq_iff_eq]
 have p2 : decide (s.toList = [112, 114, 111, 116, 101, 99, 116, 58]) = decide (s.data.toList = wProtect) := by rw [← q2, Bool.eq_iff_iff, decide_eq_true_eq, beq_iff_eq]
 generalize decide (s.data.toList = wInactive) = b1 at *
 generalize decide (s.data.toList = wProtect) = b2 at *
 generalize Lib.hasPrefix s.data.toList [47, 42] = b3 at *
 cases b1 with
 | true =>
   have hK : Hid (markB s.data.toList = true) := by show _ = _; rw [HX.out]; rfl
   clear HX q2 p2 p1
   go_enter Tryz.func162, Tryz.ntmps162
   go_wp2_with fail
   go_ret
   exact ⟨ret_bool hK.out.symm, rfl⟩
 | false =>
   have p1' : ¬ s.toList = [105, 110, 97, 99, 116, 105, 118, 101, 58] := of_decide_eq_false p1
   clear p1
   cases b2 with
   | true =>
     have hK : Hid (markB s.data.toList = true) := by show _ = _; rw [HX.out]; rfl
     clear HX p2
     go_enter Tryz.func162, Tryz.ntmps162
     go_wp2_with fail
     go_ret
     exact ⟨ret_bool hK.out.symm, rfl⟩
   | false =>
     have p2' : ¬ s.toList = [112, 114, 111, 116, 101, 99, 116, 58] := of_decide_eq_false p2
     clear p2
     have hK : Hid (markB s.data.toList = b3) := by show _ = _; rw [HX.out]; rfl
     clear HX
     go_enter Tryz.func162, Tryz.ntmps162
     go_wp2_with (go_at_call 97; refine HP.out.mono ?_; rintro e w' ⟨rfl, rfl⟩)
     go_ret
     exact ⟨ret_bool hK.out.symm, rfl⟩
end Go.Proofs.YtjdknhalcpkeaaaGreatDoor
namespace Go.Proofs.YtjdknhalcpkeaaaGreatDoor
open Go Go.RowKit Go.Sort Lx
theorem ext_drop (s : ByteArray) (p : Nat) : (s.extract p s.size).data.toList = s.data.toList.drop p := by
 rw [Lib.extract_data, List.take_of_length_le (by rw [List.length_drop, size_data]; exact Nat.le_refl _)]
theorem ext_size {s : ByteArray} (p q : Nat) (h : q ≤ s.size) : (s.extract p q).size = q - p := by
 rw [← size_data, Lib.extract_data, List.length_take, List.length_drop, size_data]; omega
theorem ne34 {b c : UInt8} (h : b ≠ c) : ((b.toNat : Int) == (c.toNat : Int)) = false := by
 rw [beq_eq_false_iff_ne]
 intro e
 exact h (UInt8.toNat_inj.1 (by omega))
theorem scan_run {c : UInt8} {l : List UInt8} (h : c ≠ 34) : scanB (c :: l) = runB (c :: l) := by
 show (if c = 34 then _ else _) = _
 rw [if_neg h]
def scanRet (p n : Nat) : Value := .tuple #[.int .i64 (if n = 0 then 0 else ((p + n : Nat) : Int)), .bool (decide (0 < n))]
set_option maxHeartbeats 1000000 in
theorem scan_any (s : ByteArray) (p : Nat) (w : World) (hs : s.size ≤ 1000000000) (hp : p < s.size) (h34 : s[p] ≠ 34) :
 Calls Tryz.prog 127 #[.string s, .int .i64 p] w fun e w' => e = .returned (scanRet p (scanB (s.data.toList.drop p))) ∧ w' = w := by
 have hR := run_any (s.extract p s.size) w (by rw [ext_size p s.size (Nat.le_refl _)]; omega)
 rw [ext_drop, show runB (s.data.toList.drop p) = scanB (s.data.toList.drop p) by rw [drop_at hp, scan_run h34]] at hR
 have hle := scanB_le (s.data.toList.drop p)
 rw [List.length_drop, size_data] at hle
 have HR := Lib.hid hR
 have hne : ((s[p].toNat : Int) == 34) = false := ne34 h34
 clear hR h34
 generalize scanB (s.data.toList.drop p) = n at *
 go_enter Tryz.func127, Tryz.ntmps127
 by_cases h0 : n = 0
 · subst h0
   go_wp2_with (go_at_call 161; refine HR.out.mono ?_; rintro e w' ⟨rfl, rfl⟩)
   exact bodyPost_ret (v := scanRet p 0) (by simp [results, Tryz.results127, go_sem, scanRet]) rfl ⟨rfl, rfl⟩
 · have hn : ((n : Int) == 0) = false := by rw [beq_eq_false_iff_ne]; omega
   go_wp2_with (go_at_call 161; refine HR.out.mono ?_; rintro e w' ⟨rfl, rfl⟩)
   exact bodyPost_ret (v := scanRet p n) (by simp [results, Tryz.results127, go_sem, scanRet, h0]; omega) rfl ⟨rfl, rfl⟩
set_option maxHeartbeats 1000000 in
theorem signs_any (c : UInt8) (w : World) : Calls Tryz.prog 126 #[.int .u8 (c.toNat : Int)] w fun e w' => e = .returned (.int .i64 (signsB c)) ∧ w' = w := by
 have hX : Hid (signsB c = if c.toNat = 123 then 2 else if c.toNat = 125 then 3 else if c.toNat = 59 then 4 else 0) := by
  show _ = _
  unfold signsB
  simp only [show (c = 123) = (c.toNat = 123) from propext ⟨fun h => by rw [h]; rfl, fun h => UInt8.toNat_inj.1 h⟩, show (c = 125) = (c.toNat = 125) from propext ⟨fun h => by rw [h]; rfl, fun h => UInt8.toNat_inj.1 h⟩, show (c = 59) = (c.toNat = 59) from propext ⟨fun h => by rw [h]; rfl, fun h => UInt8.toNat_inj.1 h⟩]
 have hc256 := c.toNat_lt
 generalize c.toNat = n at *
 by_cases h1 : n = 123
 · subst h1
   go_enter Tryz.func126, Tryz.ntmps126
   go_wp2
   go_ret
   exact ⟨by rw [hX.out]; rfl, rfl⟩
 · have g1 : ((n : Int) == 123) = false := by rw [beq_eq_false_iff_ne]; omega
   by_cases h2 : n = 125
   · subst h2
     go_enter Tryz.func126, Tryz.ntmps126
     go_wp2
     go_ret
     exact ⟨by rw [hX.out]; rfl, rfl⟩
   · have g2 : ((n : Int) == 125) = false := by rw [beq_eq_false_iff_ne]; omega
     by_cases h3 : n = 59
     · subst h3
       go_enter Tryz.func126, Tryz.ntmps126
       go_wp2
       go_ret
       exact ⟨by rw [hX.out]; rfl, rfl⟩
     · have g3 : ((n : Int) == 59) = false := by rw [beq_eq_false_iff_ne]; omega
       have hK : Hid (signsB c = 0) := by show _ = _; rw [hX.out, if_neg h1, if_neg h2, if_neg h3]
       clear hX
       go_enter Tryz.func126, Tryz.ntmps126
       go_wp2
       go_ret
       exact ⟨by rw [hK.out]; rfl, rfl⟩
set_option maxHeartbeats 1000000 in
theorem bit_any (s : ByteArray) (w : World) : Calls Tryz.prog 128 #[.string s] w fun e w' => e = .returned (.int .i64 (bitB s.data.toList)) ∧ w' = w := by
 have q1 : (s.toList == [105, 110, 97, 99, 116, 105, 118, 101, 58]) = decide (s.data.toList = wInactive) := list_eq_of s _
 have q2 : (s.toList == [112, 114, 111, 116, 101, 99, 116, 58]) = decide (s.data.toList = wProtect) := list_eq_of s _
 by_cases h1 : s.data.toList = wInactive
 · have hK : Hid (bitB s.data.toList = 1) := by show _ = _; unfold bitB; rw [if_pos h1]
   rw [decide_eq_true h1] at q1
   clear h1 q2
   go_enter Tryz.func128, Tryz.ntmps128
   go_wp2
   go_ret
   exact ⟨by rw [hK.out]; rfl, rfl⟩
 · rw [decide_eq_false h1] at q1
   have p1 : ¬ s.toList = [105, 110, 97, 99, 116, 105, 118, 101, 58] := by simpa using q1
   by_cases h2 : s.data.toList = wProtect
   · have hK : Hid (bitB s.data.toList = 2) := by show _ = _; unfold bitB; rw [if_neg h1, if_pos h2]
     rw [decide_eq_true h2] at q2
     clear h1 h2
     go_enter Tryz.func128, Tryz.ntmps128
     go_wp2
     go_ret
     exact ⟨by rw [hK.out]; rfl, rfl⟩
   · rw [decide_eq_false h2] at q2
     have p2 : ¬ s.toList = [112, 114, 111, 116, 101, 99, 116, 58] := by simpa using q2
     have hK : Hid (bitB s.data.toList = 0) := by show _ = _; unfold bitB; rw [if_neg h1, if_neg h2]
     clear h1 h2
     go_enter Tryz.func128, Tryz.ntmps128
     go_wp2
     go_ret
     exact ⟨by rw [hK.out]; rfl, rfl⟩
end Go.Proofs.YtjdknhalcpkeaaaGreatDoor
namespace Go.Proofs.YtjdknhalcpkeaaaGreatDoor
open Go Go.RowKit Go.Sort Lx
theorem unq_plain {l : List UInt8} (h : l.getD 0 0 ≠ 34) : unqB l = if (decide (l ≠ []) && decide (runB l = l.length) && !(markB l)) = true then (if 40 < l.length then ([], 5) else (l, 0)) else ([], 2) := by
 unfold unqB
 rw [decide_eq_false (p := l.getD 0 0 = 34) h]
 simp only [Bool.and_false, Bool.false_and, Bool.false_eq_true, if_false]
 by_cases hb : (decide (l ≠ []) && decide (runB l = l.length) && !(markB l)) = true
 · rw [if_pos hb, if_pos hb]
 · rw [if_neg hb, if_neg hb]
def unqRet (r : List UInt8 × Int) : Value := .tuple #[.string ⟨r.1.toArray⟩, .int .i64 r.2]
set_option maxHeartbeats 1000000 in
theorem unquote_any (s : ByteArray) (w : World) (hs : s.size ≤ 1000000000) (hp : 0 < s.size) (h34 : s[0] ≠ 34) :
 Calls Tryz.prog 129 #[.string s] w fun e w' => e = .returned (unqRet (unqB s.data.toList)) ∧ w' = w := by
 have HR := Lib.hid (run_any s w hs)
 have HM := Lib.hid (mark_any s w)
 have hg : s.data.toList.getD 0 0 = s[0] := by
  rw [List.getD_eq_getElem?_getD, List.getElem?_eq_getElem (by rw [size_data]; exact hp)]; rfl
 have hU := unq_plain (l := s.data.toList) (by rw [hg]; exact h34)
 have hl := size_data s
 have hnz : s.data.toList ≠ [] := fun e => by rw [e] at hl; simp at hl; omega
 rw [decide_eq_true hnz, hl, Bool.true_and] at hU
 have HS : Hid (s = ⟨s.data.toList.toArray⟩) := (mk_data s).symm
 have HU := Lib.hid hU
 have he : s.toList.isEmpty = false := nonempty_list hp
 have he2 : ¬ s.toList = [] := by simpa using he
 have hne : ((s[0].toNat : Int) == 34) = false := ne34 h34
 have hrl := runB_le s.data.toList
 rw [hl] at hrl
 clear hU hg hl hnz h34
 generalize runB s.data.toList = n at *
 generalize markB s.data.toList = b at *
 go_enter Tryz.func129, Tryz.ntmps129
 by_cases hn : n = s.size
 · have hn' : ((n : Int) == (s.size : Int)) = true := by rw [beq_iff_eq]; omega
   cases b with
   | true =>
     have HK : Hid (unqB s.data.toList = ([], 2)) := by show _ = _; rw [HU.out]; simp
     clear HU HS
     go_wp2_with (first | (go_at_call 161; refine HR.out.mono ?_; rintro e w' ⟨rfl, rfl⟩) | (go_at_call 162; refine HM.out.mono ?_; rintro e w' ⟨rfl, rfl⟩))
     all_goals exact bodyPost_ret (v := unqRet ([], 2)) (by simp [results, Tryz.results129, go_sem, unqRet]) rfl ⟨by rw [HK.out], rfl⟩
   | false =>
     by_cases h40 : 40 < s.size
     · have HK : Hid (unqB s.data.toList = ([], 5)) := by show _ = _; rw [HU.out, decide_eq_true hn, if_pos (by rfl), if_pos h40]
       clear HU HS
       go_wp2_with (first | (go_at_call 161; refine HR.out.mono ?_; rintro e w' ⟨rfl, rfl⟩) | (go_at_call 162; refine HM.out.mono ?_; rintro e w' ⟨rfl, rfl⟩))
       all_goals exact bodyPost_ret (v := unqRet ([], 5)) (by simp [results, Tryz.results129, go_sem, unqRet]) rfl ⟨by rw [HK.out], rfl⟩
     · have HK : Hid (unqB s.data.toList = (s.data.toList, 0)) := by show _ = _; rw [HU.out, decide_eq_true hn, if_pos (by rfl), if_neg h40]
       have HV : Hid (unqRet (s.data.toList, 0) = .tuple #[.string s, .int .i64 0]) := by show _ = _; unfold unqRet; rw [← HS.out]
       clear HU HS
       go_wp2_with (first | (go_at_call 161; refine HR.out.mono ?_; rintro e w' ⟨rfl, rfl⟩) | (go_at_call 162; refine HM.out.mono ?_; rintro e w' ⟨rfl, rfl⟩))
       all_goals exact bodyPost_ret (v := .tuple #[.string s, .int .i64 0]) (by simp [results, Tryz.results129, go_sem]) rfl ⟨by rw [HK.out, HV.out], rfl⟩
 · have hn' : ((n : Int) == (s.size : Int)) = false := by rw [beq_eq_false_iff_ne]; omega
   have HK : Hid (unqB s.data.toList = ([], 2)) := by show _ = _; rw [HU.out, decide_eq_false hn]; rfl
   clear HU HS
   go_wp2_with (first | (go_at_call 161; refine HR.out.mono ?_; rintro e w' ⟨rfl, rfl⟩) | (go_at_call 162; refine HM.out.mono ?_; rintro e w' ⟨rfl, rfl⟩))
   all_goals exact bodyPost_ret (v := unqRet ([], 2)) (by simp [results, Tryz.results129, go_sem, unqRet]) rfl ⟨by rw [HK.out], rfl⟩
theorem index_le (l sub : List UInt8) : Lib.index l sub ≤ l.length := by
 induction l with
 | nil => unfold Lib.index; split <;> simp
 | cons b l ih =>
   unfold Lib.index
   split
   · simp; omega
   · split
     · simp; omega
     · simp; omega
theorem index_ge (l sub : List UInt8) : -1 ≤ Lib.index l sub := by
 induction l with
 | nil => unfold Lib.index; split <;> simp
 | cons b l ih =>
   unfold Lib.index
   split
   · omega
   · split
     · omega
     · omega
set_option maxHeartbeats 1000000 in
set_option maxRecDepth 100000 in
theorem comment_any (s : ByteArray) (p : Nat) (w : World) (hE : Env w) (hs : s.size ≤ 1000000000) (hp : p ≤ s.size) :
 Calls Tryz.prog 125 #[.string s, .int .i64 p] w fun e w' => e = .returned (.int .i64 (comB s.data.toList p)) ∧ w' = w := by
 obtain ⟨m, hm⟩ := hE.mx
 have hP1 := Tryz.strings_HasPrefix (s.extract p s.size) ⟨#[35]⟩ w
 have hP2 := Tryz.strings_HasPrefix (s.extract p s.size) ⟨#[47, 42]⟩ w
 have hI := Tryz.strings_IndexByte (s.extract p s.size) 10 w
 have hsz := ext_size (s := s) p s.size (Nat.le_refl _)
 have hJ := fun (h2 : 2 ≤ s.size - p) => Tryz.strings_Index ((s.extract p s.size).extract 2 (s.size - p)) ⟨#[42, 47]⟩ m w (by rw [ext_size 2 (s.size - p) (by omega)]; omega) hm
 have hx2 : ∀ h2 : 2 ≤ s.size - p, ((s.extract p s.size).extract 2 (s.size - p)).data.toList = (s.data.toList.drop p).drop 2 := fun h2 => by
  have := ext_drop (s.extract p s.size) 2
  rw [hsz, ext_drop] at this; exact this
 have hlen : (s.data.toList.drop p).length = s.size - p := by rw [List.length_drop, size_data]
 rw [ext_drop] at hP1 hP2 hI
 have hX : comB s.data.toList p = (if Lib.hasPrefix (s.data.toList.drop p) [35] = true then (if Lib.indexByte (s.data.toList.drop p) 10 < 0 then (s.data.toList.length : Int) else (p : Int) + Lib.indexByte (s.data.toList.drop p) 10)
  else if Lib.hasPrefix (s.data.toList.drop p) [47, 42] = true then (if Lib.index ((s.data.toList.drop p).drop 2) [42, 47] < 0 then -1 else (p : Int) + Lib.index ((s.data.toList.drop p).drop 2) [42, 47] + 4) else (p : Int)) := rfl
 rw [size_data] at hX
 have h2p : Lib.hasPrefix (s.data.toList.drop p) [47, 42] = true → 2 ≤ s.size - p := fun h => by
  rw [← hlen]
  have := List.IsPrefix.length_le (List.isPrefixOf_iff_prefix.1 h)
  simpa using this
 have hb1 := index_one_le (s.data.toList.drop p) 10
 have hb2 := index_le ((s.data.toList.drop p).drop 2) [42, 47]
 have hb3 := index_ge ((s.data.toList.drop p).drop 2) [42, 47]
 have hb4 := Lib.indexByte_ge (s.data.toList.drop p) 10
 rw [hlen] at hb1
 rw [List.length_drop, hlen] at hb2
 have hI2 : Calls Tryz.prog 159 #[.string (s.extract p s.size), .int .u8 10] w fun e w' => e = .returned (.int .i64 (Lib.indexByte (s.data.toList.drop p) 10)) ∧ w' = w := hI
 have HJ := Lib.hid (fun h2 => by have := hJ h2; rw [hx2 h2] at this; exact this)
 have HX := Lib.hid hX
 have HI := Lib.hid hI2
 have HP1 := Lib.hid hP1
 have HP2 := Lib.hid hP2
 clear hX hI hI2 hJ hP1 hP2 hx2 hm hE
 generalize Lib.hasPrefix (s.data.toList.drop p) [35] = a1 at *
 generalize Lib.hasPrefix (s.data.toList.drop p) [47, 42] = a2 at *
 generalize Lib.indexByte (s.data.toList.drop p) 10 = i1 at *
 generalize Lib.index ((s.data.toList.drop p).drop 2) [42, 47] = i2 at *
 clear hlen
 cases a1 with
 | true =>
   by_cases h1 : i1 < 0
   · have HK : Hid (comB s.data.toList p = (s.size : Int)) := by show _ = _; rw [HX.out, if_pos rfl, if_pos h1]
     clear HX HJ h2p hb2 hb3
     go_enter Tryz.func125, Tryz.ntmps125
     go_wp2_with (first | (go_at_call 97; refine HP1.out.mono ?_; rintro e w' ⟨rfl, rfl⟩) | (go_at_call 159; refine HI.out.mono ?_; rintro e w' ⟨rfl, rfl⟩))
     go_ret
     exact ⟨by rw [HK.out]; rfl, rfl⟩
   · have HK : Hid (comB s.data.toList p = (p : Int) + i1) := by show _ = _; rw [HX.out, if_pos rfl, if_neg h1]
     clear HX HJ h2p hb2 hb3
     go_enter Tryz.func125, Tryz.ntmps125
     go_wp2_with (first | (go_at_call 97; refine HP1.out.mono ?_; rintro e w' ⟨rfl, rfl⟩) | (go_at_call 159; refine HI.out.mono ?_; rintro e w' ⟨rfl, rfl⟩))
     go_ret
     exact ⟨by rw [HK.out]; go_num, rfl⟩
 | false =>
   cases a2 with
   | true =>
     have h2 := h2p rfl
     have HJ2 := Lib.hid (HJ.out h2)
     by_cases h1 : i2 < 0
     · have HK : Hid (comB s.data.toList p = -1) := by show _ = _; rw [HX.out, if_neg (by decide), if_pos rfl, if_pos h1]
       clear HX HJ h2p hb1 hb4
       go_enter Tryz.func125, Tryz.ntmps125
       go_wp2_with (first | (go_at_call_of 97 (Value.string (s.extract p s.size)); (first | (refine HP1.out.mono ?_; rintro e w' ⟨rfl, rfl⟩) | (refine HP2.out.mono ?_; rintro e w' ⟨rfl, rfl⟩))) | (go_at_call 160; refine HJ2.out.mono ?_; rintro e w' ⟨rfl, rfl⟩))
       go_ret
       exact ⟨by rw [HK.out]; rfl, rfl⟩
     · have HK : Hid (comB s.data.toList p = (p : Int) + i2 + 4) := by show _ = _; rw [HX.out, if_neg (by decide), if_pos rfl, if_neg h1]
       clear HX HJ h2p hb1 hb4
       go_enter Tryz.func125, Tryz.ntmps125
       go_wp2_with (first | (go_at_call_of 97 (Value.string (s.extract p s.size)); (first | (refine HP1.out.mono ?_; rintro e w' ⟨rfl, rfl⟩) | (refine HP2.out.mono ?_; rintro e w' ⟨rfl, rfl⟩))) | (go_at_call 160; refine HJ2.out.mono ?_; rintro e w' ⟨rfl, rfl⟩))
       go_ret
       exact ⟨by rw [HK.out]; go_num, rfl⟩
   | false =>
     have HK : Hid (comB s.data.toList p = (p : Int)) := by show _ = _; rw [HX.out, if_neg (by decide), if_neg (by decide)]
     clear HX HJ h2p hb1 hb2 hb3 hb4
     go_enter Tryz.func125, Tryz.ntmps125
     go_wp2_with (go_at_call_of 97 (Value.string (s.extract p s.size)); (first | (refine HP1.out.mono ?_; rintro e w' ⟨rfl, rfl⟩) | (refine HP2.out.mono ?_; rintro e w' ⟨rfl, rfl⟩)))
     go_ret
     exact ⟨by rw [HK.out]; rfl, rfl⟩
end Go.Proofs.YtjdknhalcpkeaaaGreatDoor
