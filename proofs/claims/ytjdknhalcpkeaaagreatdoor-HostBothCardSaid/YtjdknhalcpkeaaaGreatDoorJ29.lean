/- Walks: lines.bits, cut, act, Read, of texts all of whose commands set. Plain: entries in order, each once. No program in sight. -/
import Derived.Sort.LotA
import Derived.Shelf.SlSortCmp.Insertion
import Derived.Test.YtjdknhalcpkeaaaGreatDoorJ26
import Derived.Test.YtjdknhalcpkeaaaGreatDoorJ28
import Derived.Test.YtjdknhalcpkeaaaGreatDoorJ01
namespace Lns
open Go Go.Lib Adr Mtr Tre Sch Lx
def wSet : ByteArray := ⟨#[115, 101, 116]⟩
def cutGo : Nat → List Tok → List ByteArray → Option (List ByteArray × Nat)
 | _, [], _ => none
 | i, t :: r, path =>
   if t.kind = 4 ∧ 1 < i then some (path, i + 1)
   else if t.kind ≠ 1 ∨ (i = 0 ∧ t.word ≠ wSet) then none
   else if 16 < i then none
   else cutGo (i + 1) r (if 0 < i then path ++ [t.word] else path)
def readGo : Nat → List Tok → List Line → Option (List Line)
 | _, [], out => some out
 | 0, _ :: _, _ => none
 | f + 1, t :: r, out =>
   match cutGo 0 (t :: r) [] with
   | some (p, n) => if rightB out = true ∧ soundP p = true ∧ p.length ≤ 16 ∧ (addB out p).2 = 0 then readGo f ((t :: r).drop n) (addB out p).1 else none
   | none => none
theorem cut_le : ∀ (l : List Tok) (i : Nat) (path p : List ByteArray) (n : Nat), cutGo i l path = some (p, n) → i < n ∧ n ≤ i + l.length
 | [], i, path, p, n, h => by unfold cutGo at h; cases h
 | t :: r, i, path, p, n, h => by
   unfold cutGo at h
   split at h
   · injection h with h
     injection h with h1 h2
     simp; omega
   · split at h
     · cases h
     · split at h
       · cases h
       · have := cut_le r (i + 1) _ p n h
         simp; omega
theorem cut_first0 {l : List Tok} {p : List ByteArray} {n : Nat} (h : cutGo 0 l [] = some (p, n)) (hl : 0 < l.length) : l[0].word = wSet := by
 cases l with
 | nil => cases hl
 | cons t r =>
   unfold cutGo at h
   split at h
   · omega
   · split at h
     · cases h
     · rename_i h1
       have h3 : ¬ t.word ≠ wSet := fun e => h1 (.inr ⟨rfl, e⟩)
       exact Classical.not_not.1 h3
theorem read_step {f : Nat} {l : List Tok} {L M : List Line} (h : readGo (f + 1) l L = some M) (hl : 0 < l.length) :
 ∃ p n, cutGo 0 l [] = some (p, n) ∧ rightB L = true ∧ soundP p = true ∧ p.length ≤ 16 ∧ (addB L p).2 = 0 ∧ readGo f (l.drop n) (addB L p).1 = some M := by
 cases l with
 | nil => cases hl
 | cons t r =>
   unfold readGo at h
   split at h
   · rename_i p n hc
     split at h
     · rename_i hg
       exact ⟨p, n, hc, hg.1, hg.2.1, hg.2.2.1, hg.2.2.2, h⟩
     · cases h
   · cases h
theorem read_end {f : Nat} {l : List Tok} {L M : List Line} (h : readGo f l L = some M) (hl : l.length = 0) : L = M := by
 obtain rfl := List.length_eq_zero_iff.1 hl
 unfold readGo at h
 exact Option.some.inj h
end Lns
namespace Go.Proofs.YtjdknhalcpkeaaaGreatDoor
open Go Go.RowKit Go.Sort Tre Sch Lns Lx
theorem bits_set (w : World) : Calls Tryz.prog 85 #[.string wSet] w fun e w' => e = .returned (.int .i64 0) ∧ w' = w := by
 unfold wSet
 go_enter Tryz.func85, Tryz.ntmps85
 go_wp2
 go_ret
 exact ⟨rfl, rfl⟩
theorem Rd.tok {w : World} {A : Option Addr} {L : List Tok} (h : Rd w 4 A L.length (toks L)) {i : Nat} (hi : i < L.length) :
 ∃ B O, A = some ⟨B, O, none⟩ ∧ B < w.heap.size ∧ (⟨B, O, none⟩ : Addr).add (i * 4) = ⟨B, O + i * 4, none⟩ ∧ w.cell? ⟨B, O + i * 4, none⟩ = some (.int .i64 L[i].kind) ∧ w.cell? ⟨B, O + i * 4 + 1, none⟩ = some (.int .i64 L[i].at_) ∧
   w.cell? ⟨B, O + i * 4 + 2, none⟩ = some (.string L[i].word) ∧ w.cell? ⟨B, O + i * 4 + 3, none⟩ = some (.int .i64 L[i].bit) := by
 obtain ⟨ad, e, hb, hx⟩ := h.2 (by omega)
 have g := fun j (hj : j < 4) => toks_get L i j hi hj
 have h0 := hx (i * 4) _ (by have := g 0 (by omega); simpa [Tok.cells] using this)
 have h1 := hx (i * 4 + 1) _ (by have := g 1 (by omega); simpa [Tok.cells] using this)
 have h2 := hx (i * 4 + 2) _ (by have := g 2 (by omega); simpa [Tok.cells] using this)
 have h3 := hx (i * 4 + 3) _ (by have := g 3 (by omega); simpa [Tok.cells] using this)
 have hs : ad.spot = none := by
  have h00 := hx 0 _ (by have := toks_get L 0 0 (by omega) (by omega); simpa [Tok.cells] using this)
  exact World.cell?_spot h00
 obtain ⟨B, O, sp⟩ := ad
 obtain rfl : sp = none := hs
 rw [add_plain] at h0 h1 h2 h3
 exact ⟨B, O, e, hb, add_plain _ _ _, h0, h1, h2, h3⟩
set_option maxHeartbeats 4000000 in
set_option maxRecDepth 100000 in
theorem cutSet_any (A : Option Addr) (c : Nat) (l : List Tok) (q : Nat) (p : List ByteArray) (n : Nat) (w : World) (hR : Rd w 4 A l.length (toks l)) (hl : l.length ≤ 1000000) (hcut : cutGo 0 l [] = some (p, n)) :
 Calls Tryz.prog 53 #[.slice A l.length c, .int .i64 q] w fun e w' => (∃ v, e = .returned (.tuple #[v, .int .i64 n, .int .i64 0, .int .i64 0]) ∧ w'.ownsRow w.heap.size 9 1 v p.length (sv p)) ∧ Below w.heap.size w w' := by
 obtain ⟨i0, hi, hz0, hz1, hz2⟩ := info_parts info_string
 have HR := Lib.hid hR
 have HC := Lib.hid hcut
 clear hR hcut
 go_enter Tryz.func53, Tryz.ntmps53
 go_wp2
 go_loopw [8, 13] (fun v vi wr => ∃ (i : Nat) (path : List ByteArray), i ≤ l.length ∧ vi = .int .i64 i ∧ path.length ≤ i ∧ Hid (cutGo i (l.drop i) path = some (p, n)) ∧ Hid (wr.ownsRow w.heap.size 9 1 v path.length (sv path)) ∧ Hid (Below w.heap.size w wr)) (fun _ vi _ => l.length - (intOf vi).toNat)
 case atStart => exact ⟨0, [], Nat.zero_le _, rfl, Nat.le_refl _, HC.out, World.ownsRow_nil _ _ _ _, Below.refl _ _⟩
 case round =>
  obtain ⟨i, path, hi1, rfl, hpi, HQ, HO, HB⟩ := hrel
  by_cases hlt : i < l.length
  · obtain ⟨B, O, rfl, hab, hadd, x0, x1, x2, x3⟩ := (HR.out.below HB.out).tok hlt
    have hq := HQ.out
    rw [List.drop_eq_getElem_cons hlt] at hq
    generalize l[i] = t at *
    unfold cutGo at hq
    clear HQ HC
    by_cases h4 : t.kind = 4 ∧ 1 < i
    · rw [if_pos h4] at hq
      injection hq with hq
      injection hq with hq1 hq2
      obtain ⟨h4a, h4b⟩ := h4
      have HP := Lib.hid hq1
      have HN := Lib.hid hq2
      have hi1' : (1 : Int) < (i : Int) := by omega
      rw [h4a] at x0
      clear hq1 hq2 h4a
      have HO5 := Lib.hid (HO.out.alloc (.cells #[.int .i64 4, .int .i64 t.at_, .string t.word, .int .i64 t.bit] 88))
      have HB5 := Lib.hid (HB.out.alloc HB.out.size (.cells #[.int .i64 4, .int .i64 t.at_, .string t.word, .int .i64 t.bit] 88))
      have hii : IntKind.i64.wrap ((i : Int) + 1) = (i : Int) + 1 := by rw [IntKind.wrap_i64]; omega
      clear HO HB
      go_wp2
      refine bodyPost_ret (v := .tuple #[u8, .int .i64 ((i : Int) + 1), .int .i64 0, .int .i64 0]) (by simp [results, Tryz.results53, go_sem]) rfl ?_
      have hn1 : ((i : Int) + 1) = (n : Int) := by have := HN.out; omega
      have hp1 := HP.out
      subst hp1
      exact ⟨⟨_, by rw [hn1], HO5.out⟩, HB5.out⟩
    · rw [if_neg h4] at hq
      by_cases h1 : t.kind ≠ 1 ∨ (i = 0 ∧ t.word ≠ wSet)
      · rw [if_pos h1] at hq; cases hq
      · rw [if_neg h1] at hq
        have hk1 : t.kind = 1 := Classical.not_not.1 fun e => h1 (.inl e)
        by_cases h16 : 16 < i
        · rw [if_pos h16] at hq; cases hq
        · rw [if_neg h16] at hq
          have h16' : ¬ (16 : Int) < (i : Int) := by omega
          rw [hk1] at x0
          have HBa := Lib.hid (HB.out.alloc HB.out.size (.cells #[.int .i64 1, .int .i64 t.at_, .string t.word, .int .i64 t.bit] 88))
          have HOa := Lib.hid (HO.out.alloc (.cells #[.int .i64 1, .int .i64 t.at_, .string t.word, .int .i64 t.bit] 88))
          by_cases h0 : i = 0
          · have hw : t.word = wSet := Classical.not_not.1 fun e => h1 (.inr ⟨h0, e⟩)
            subst h0
            rw [if_neg (by omega)] at hq
            simp only [Nat.zero_mul, Nat.add_zero] at x0 x1 x2 x3
            have HQ2 := Lib.hid hq
            rw [hw] at x2 HBa HOa
            have HBi := Lib.hid (bits_set)
            clear hq h1 h4 hk1 hw HO HB
            go_wp2_with (go_at_call 85; refine (HBi.out _).mono ?_; rintro e w' ⟨rfl, rfl⟩)
            go_roundw
            case rel => exact ⟨1, path, by omega, rfl, by omega, HQ2, HOa, HBa⟩
            case measure => simp [intOf]; omega
          · rw [if_pos (by omega)] at hq
            have HQ2 := Lib.hid hq
            have hi0 : ((i : Int) == 0) = false := by rw [beq_eq_false_iff_ne]; omega
            have hi0' : (0 : Int) < (i : Int) := by omega
            have hi0'' : ¬ (i : Int) = 0 := by omega
            have hl5 : path.length + 1 ≤ 1000000000 := by omega
            clear hq h1 h4 hk1 HO HB
            go_wp2_with (at_builtin; refine app_new rfl _ _ 42 rfl w _ 9 i0 _ 1 16 Tryz.underlying42 hi hz0 hz1 hz2 rfl (by decide) (by decide) HOa.out HBa.out rfl 1 1 [.string t.word] (by show Value.slice (some ⟨_, 0, none⟩) 1 1 = _; simp) rfl (by simp; rfl) hl5 ?_; intro v' w' hown' hb')
            have HO6 := Lib.hid (own_push_str hown')
            have HB6 := Lib.hid hb'
            clear hown' hb'
            go_roundw
            case rel => exact ⟨i + 1, path ++ [t.word], by omega, by go_num, by rw [List.length_append]; simp; omega, HQ2, HO6, HB6⟩
            case measure => simp [intOf]; omega
  · have hq := HQ.out
    rw [List.drop_eq_nil_of_le (by omega)] at hq
    unfold cutGo at hq
    cases hq
set_option maxHeartbeats 2000000 in
set_option maxRecDepth 100000 in
theorem act_set (A : Option Addr) (cap : Nat) (L : List Line) (Ap : Option Addr) (cp : Nat) (P : List ByteArray) (w : World) (hR : Rd w 3 A L.length (lines L)) (hcap : L.length ≤ cap) (hc : cap ≤ maxLen) (hnil : A = none → cap = 0) (hr : rightB L = true) (hP : Rd w 1 Ap P.length (sv P)) (hcp : P.length ≤ cp) (hc2 : cp ≤ maxLen) (hs : soundP P = true) (h16 : P.length ≤ 16) :
 Calls Tryz.prog 54 #[.slice A L.length cap, .string wSet, .slice Ap P.length cp] w (AddEnd L P w) := by
 have HA := Lib.hid (add_yes A cap L Ap cp P w hR hcap hc hnil hr hP hcp hc2 hs h16)
 have HBi := Lib.hid (bits_set w)
 clear hR hP hr hs
 go_enter Tryz.func54, Tryz.ntmps54
 go_wp2_with fail
 refine HBi.out.mono ?_
 rintro e w1 ⟨rfl, rfl⟩
 go_wp2_with fail
 refine HA.out.mono ?_
 unfold AddEnd
 rintro e w2 ⟨A2, c2, rfl, g1, g2, g3, g4, g5⟩
 have HF := Lib.hid (And.intro g1 (And.intro g2 (And.intro g3 (And.intro g4 g5))))
 clear g1 g2 g3 g4 g5 HA
 go_wp2_with fail
 refine bodyPost_ret (results_tmp2 rfl _ _ _) rfl ?_
 obtain ⟨g1, g2, g3, g4, g5⟩ := HF.out
 exact ⟨_, _, rfl, g1, g2, g3, g4, g5⟩
theorem rd_dropT {w : World} {B O : Nat} {L : List Tok} (h : Rd w 4 (some ⟨B, O, none⟩) L.length (toks L)) {n : Nat} (hn : n ≤ L.length) : Rd w 4 (some ⟨B, O + n * 4, none⟩) (L.drop n).length (toks (L.drop n)) := by
 refine ⟨toks_length _, fun h0 => ?_⟩
 rw [List.length_drop] at h0
 obtain ⟨ad, e, hb, hx⟩ := h.2 (by omega)
 injection e with e
 subst e
 refine ⟨_, rfl, hb, fun j u hu => ?_⟩
 have hsp : toks L = toks (L.take n) ++ toks (L.drop n) := by rw [← toks_append, List.take_append_drop]
 have hlt : (toks (L.take n)).length = n * 4 := by rw [toks_length, List.length_take, Nat.min_eq_left hn]
 have := hx (n * 4 + j) u (by rw [hsp, List.getElem?_append_right (by omega), hlt, Nat.add_sub_cancel_left]; exact hu)
 rw [add_plain] at this ⊢
 rwa [← Nat.add_assoc] at this
set_option maxHeartbeats 4000000 in
set_option maxRecDepth 100000 in
theorem readSet_any (s : ByteArray) (T : List Tok) (M : List Line) (w : World) (hE : Env w) (hs : s.size ≤ 1000000) (h34 : ∀ c ∈ s.data.toList, c ≠ 34) (hT : allB s.data.toList = (T, 0, 0)) (hl : T.length ≤ 1000000) (hread : readGo T.length T [] = some M) :
 Calls Tryz.prog 25 #[.string s] w fun e w' => (∃ A c, e = .returned (.tuple #[.slice A M.length c, .int .i64 0, .int .i64 0]) ∧ M.length ≤ c ∧ c ≤ maxLen ∧ Rd w' 3 A M.length (lines M) ∧ (A = none → c = 0)) ∧ Below w.heap.size w w' := by
 have HAl := all_any s w hE hs h34
 unfold AllEnd at HAl
 rw [hT] at HAl
 have HAL := Lib.hid HAl
 have HRd := Lib.hid hread
 have hq63 : (s.size : Int) ≤ 1000000 := by omega
 clear HAl hT hread h34 hE
 go_enter Tryz.func25, Tryz.ntmps25
 go_wp2_with fail
 refine HAL.out.mono ?_
 rintro e w1 ⟨⟨v1, rfl, hv1⟩, hb1⟩
 obtain ⟨A1, c1, rfl, hc11, hc12, hrd1, -, -⟩ := own_rd_nil hv1
 have HB1 := Lib.hid hb1
 have HR1 := Lib.hid hrd1
 clear hv1 hb1 hrd1 HAL
 go_wp2
 go_loopw [5, 8] (fun vl vo wr => ∃ (A : Option Addr) (c f : Nat) (l : List Tok) (L : List Line), vl = .slice A l.length c ∧ l.length ≤ c ∧ c ≤ maxLen ∧ l.length ≤ f ∧ f ≤ 1000000 ∧ Hid (Rd wr 4 A l.length (toks l)) ∧ Hid (Lr wr vo L) ∧ Hid (readGo f l L = some M) ∧ Hid (Below w.heap.size w wr)) (fun vl _ _ => match vl with | .slice _ n _ => n | _ => 0)
 case atStart => exact ⟨A1, c1, T.length, T, [], rfl, hc11, hc12, Nat.le_refl _, hl, HR1.out, ⟨none, 0, rfl, Nat.le_refl _, by unfold maxLen; omega, Rd.nil, fun _ => rfl⟩, HRd.out, HB1.out⟩
 case round =>
  clear HR1 HRd HB1
  obtain ⟨A, c, f, l, L, rfl, hlc, hcm, hlf, hf1, HR, HL, HQ, HB⟩ := hrel
  obtain ⟨Am, cm, rfl, hcm1, hcm2, hrdm, hnilm⟩ := HL.out
  by_cases hl0 : 0 < l.length
  · obtain ⟨f, rfl⟩ : ∃ f', f = f' + 1 := ⟨f - 1, by omega⟩
    obtain ⟨p, n, hcut, g1, g2, g3, g4, g5⟩ := read_step HQ.out hl0
    obtain ⟨hn0, hnl⟩ := cut_le l 0 [] p n hcut
    rw [Nat.zero_add] at hnl
    have hw := cut_first0 hcut hl0
    have HC := Lib.hid (cutSet_any A c l s.size p n wr HR.out (by omega) hcut)
    have HG := Lib.hid (And.intro g1 (And.intro g2 (And.intro g3 g4)))
    have HQ5 := Lib.hid g5
    have HM := Lib.hid hrdm
    have hnc : n ≤ c := Nat.le_trans hnl hlc
    clear hcut g1 g2 g3 g4 g5 HQ HL hrdm
    go_wp2_with fail
    refine HC.out.mono ?_
    rintro e w2 ⟨⟨vp, rfl, hvp⟩, hb2⟩
    obtain ⟨Ap, cp, rfl, hcp1, hcp2, hrdp, -, -⟩ := own_rd_nil hvp
    have HR2 := Lib.hid (HR.out.below hb2)
    have HM2 := Lib.hid (HM.out.below hb2)
    have HP2 := Lib.hid hrdp
    have HB2 := Lib.hid (below_step HB.out hb2)
    obtain ⟨B, O, rfl, hab, hadd, x0, x1, x2, x3⟩ := HR2.out.tok hl0
    simp only [Nat.zero_mul, Nat.add_zero] at x0 x1 x2 x3 hadd
    rw [hw] at x2
    have HA := Lib.hid (act_set Am cm L Ap cp p w2 HM2.out hcm1 hcm2 hnilm HG.out.1 HP2.out hcp1 hcp2 HG.out.2.1 HG.out.2.2.1)
    clear hvp hb2 hrdp HC HR HB HM
    go_wp2_with fail
    refine HA.out.mono ?_
    unfold AddEnd
    rw [HG.out.2.2.2]
    rintro e w3 ⟨A3, c3, rfl, h1, h2, h3, h4, h5⟩
    have HB3 := Lib.hid (below_step HB2.out h5)
    have HR3 := Lib.hid (rd_dropT (HR2.out.below h5) hnl)
    have HL3 := Lib.hid (show Lr w3 (.slice A3 (addB L p).1.length c3) (addB L p).1 from ⟨A3, c3, rfl, h1, h2, h3, h4⟩)
    clear h3 h5 HA HP2 HM2 HR2 HB2 HG
    generalize (addB L p).1 = L3 at *
    by_cases hcn : c = n
    · go_wp2_with fail
      go_roundw
      case rel =>
       have hll : l.drop n = [] := List.drop_eq_nil_of_le (by omega)
       refine ⟨some ⟨B, O, none⟩, 0, f, l.drop n, L3, ?_, by rw [hll]; exact Nat.le_refl _, by unfold maxLen; omega, by rw [hll]; exact Nat.zero_le _, by omega, by rw [hll]; exact ⟨rfl, fun h => absurd h (Nat.lt_irrefl 0)⟩, HL3.out, HQ5.out, HB3.out⟩
       have hn0 : l.length - n = 0 := by omega
       rw [hll, hn0]; rfl
      case measure => simp; omega
    · go_wp2_with fail
      go_roundw
      case rel =>
       refine ⟨some ⟨B, O + n * 4, none⟩, c - n, f, l.drop n, L3, ?_, by simp; omega, by omega, by simp; omega, by omega, HR3.out, HL3.out, HQ5.out, HB3.out⟩
       simp
      case measure => simp; omega
  · obtain rfl := read_end HQ.out (by omega)
    have hl00 : l.length = 0 := by omega
    go_wp2
    refine bodyPost_ret (v := .tuple #[.slice Am L.length cm, .int .i64 0, .int .i64 0]) (by simp [results, Tryz.results25, go_sem]) rfl ?_
    exact ⟨⟨_, _, rfl, hcm1, hcm2, hrdm, hnilm⟩, HB.out⟩
end Go.Proofs.YtjdknhalcpkeaaaGreatDoor
namespace Hst
open Go Go.Lib Rte Go.Sort Go.Proofs
structure Pre {α : Type} (c : α → α → Int) : Prop where
 same : ∀ a, c a a = 0
 anti : ∀ a b, c a b < 0 ↔ 0 < c b a
 trans : ∀ a b d, c a b ≤ 0 → c b d ≤ 0 → c a d ≤ 0
def orC (x y : Int) : Int := if x = 0 then y else x
theorem Pre.le_iff {α : Type} {c : α → α → Int} (h : Pre c) (a b : α) : c a b ≤ 0 ↔ 0 ≤ c b a := by
 have := h.anti b a
 constructor <;> intro h1 <;> omega
theorem Pre.zero_iff {α : Type} {c : α → α → Int} (h : Pre c) (a b : α) : c a b = 0 ↔ c b a = 0 := by
 have h1 := h.anti a b
 have h2 := h.anti b a
 constructor <;> intro h0 <;> omega
theorem Pre.strict {α : Type} {c : α → α → Int} (h : Pre c) {a b d : α} (h1 : c a b < 0) (h2 : c b d ≤ 0) : c a d < 0 := by
 have h3 := h.trans a b d (by omega) h2
 rcases Int.lt_or_eq_of_le h3 with h4 | h4
 · exact h4
 · have h5 : c d a ≤ 0 := by rw [(h.zero_iff a d).1 h4]; omega
   have h6 := h.trans b d a h2 h5
   have := h.anti a b
   omega
theorem Pre.strict2 {α : Type} {c : α → α → Int} (h : Pre c) {a b d : α} (h1 : c a b ≤ 0) (h2 : c b d < 0) : c a d < 0 := by
 have h3 := h.trans a b d h1 (by omega)
 rcases Int.lt_or_eq_of_le h3 with h4 | h4
 · exact h4
 · have h5 : c d a ≤ 0 := by rw [(h.zero_iff a d).1 h4]; omega
   have h6 := h.trans d a b h5 h1
   have := h.anti b d
   omega
theorem Pre.or {α : Type} {c d : α → α → Int} (h : Pre c) (k : Pre d) : Pre fun a b => orC (c a b) (d a b) where
 same a := by unfold orC; rw [if_pos (h.same a), k.same a]
 anti a b := by
  unfold orC
  by_cases h0 : c a b = 0
  · rw [if_pos h0, if_pos ((h.zero_iff a b).1 h0)]; exact k.anti a b
  · rw [if_neg h0, if_neg (fun e => h0 ((h.zero_iff a b).2 e))]; exact h.anti a b
 trans a b x := by
  unfold orC
  intro h1 h2
  have g1 : c a b ≤ 0 := by split at h1 <;> omega
  have g2 : c b x ≤ 0 := by split at h2 <;> omega
  have g3 := h.trans a b x g1 g2
  by_cases h0 : c a x = 0
  · rw [if_pos h0]
    have e1 : c a b = 0 := by
     rcases Int.lt_or_eq_of_le g1 with h4 | h4
     · have := h.strict h4 g2; omega
     · exact h4
    have e2 : c b x = 0 := by
     rcases Int.lt_or_eq_of_le g2 with h4 | h4
     · have := h.strict2 g1 h4; omega
     · exact h4
    rw [if_pos e1] at h1
    rw [if_pos e2] at h2
    exact k.trans a b x h1 h2
  · rw [if_neg h0]; exact g3
theorem Pre.by {α β : Type} {c : α → α → Int} (h : Pre c) (f : β → α) : Pre fun a b => c (f a) (f b) where
 same _ := h.same _
 anti _ _ := h.anti _ _
 trans _ _ _ := h.trans _ _ _
theorem pre_int : Pre compareInt where
 same a := by unfold compareInt; simp
 anti a b := by unfold compareInt; split <;> split <;> (try split) <;> (try split) <;> omega
 trans a b d := by unfold compareInt; split <;> split <;> (try split) <;> (try split) <;> (try split) <;> (try split) <;> omega
theorem cb_same (a : List UInt8) : compareBytes a a = 0 := by
 induction a with
 | nil => rfl
 | cons x a ih => unfold compareBytes; rw [if_neg (UInt8.lt_irrefl x), if_neg (UInt8.lt_irrefl x), ih]
theorem cb_zero : ∀ {a b : List UInt8}, compareBytes a b = 0 → a = b
 | [], [], _ => rfl
 | [], _ :: _, h => by simp [compareBytes] at h
 | _ :: _, [], h => by simp [compareBytes] at h
 | x :: a, y :: b, h => by
   unfold compareBytes at h
   split at h
   · simp at h
   · split at h
     · simp at h
     · rename_i h1 h2
       have hxy : x = y := by
        rw [UInt8.lt_iff_toNat_lt] at h1 h2
        exact UInt8.toNat_inj.1 (by omega)
       rw [hxy, cb_zero h]
theorem cb_neg : ∀ {a b : List UInt8}, compareBytes a b < 0 ↔ a < b
 | [], [] => by simp [compareBytes]
 | [], _ :: _ => by simp [compareBytes]
 | _ :: _, [] => by simp [compareBytes]
 | x :: a, y :: b => by
   unfold compareBytes
   rw [List.cons_lt_cons_iff]
   split
   · rename_i h1; exact ⟨fun _ => .inl h1, fun _ => by omega⟩
   · rename_i h1
     split
     · rename_i h2
       refine ⟨fun h => by omega, ?_⟩
       rintro (h | ⟨h, -⟩)
       · exact absurd h h1
       · subst h; exact absurd h2 (UInt8.lt_irrefl _)
     · rename_i h2
       have hxy : x = y := by
        rw [UInt8.lt_iff_toNat_lt] at h1 h2
        exact UInt8.toNat_inj.1 (by omega)
       subst hxy
       rw [cb_neg]
       exact ⟨fun h => .inr ⟨rfl, h⟩, fun h => h.resolve_left (UInt8.lt_irrefl _) |>.2⟩
theorem cb_anti : ∀ (a b : List UInt8), compareBytes a b < 0 ↔ 0 < compareBytes b a
 | [], [] => by simp [compareBytes]
 | [], _ :: _ => by simp [compareBytes]
 | _ :: _, [] => by simp [compareBytes]
 | x :: a, y :: b => by
   unfold compareBytes
   by_cases h1 : x < y
   · have h2 : ¬ y < x := fun h2 => by rw [UInt8.lt_iff_toNat_lt] at h1 h2; omega
     rw [if_pos h1, if_neg h2, if_pos h1]; omega
   · by_cases h2 : y < x
     · rw [if_neg h1, if_pos h2, if_pos h2]; omega
     · rw [if_neg h1, if_neg h2, if_neg h2, if_neg h1]; exact cb_anti a b
theorem pre_bytes : Pre compareBytes where
 same := cb_same
 anti := cb_anti
 trans a b d h1 h2 := by
  rcases Int.lt_or_eq_of_le h1 with h3 | h3
  · rcases Int.lt_or_eq_of_le h2 with h4 | h4
    · have := cb_neg.2 (List.lt_trans (cb_neg.1 h3) (cb_neg.1 h4)); omega
    · rw [← cb_zero h4]; exact h1
  · rw [cb_zero h3]; exact h2
def cmpE (a b : Ent) : Int :=
 orC (compareBytes a.host.data.toList b.host.data.toList) (orC (compareInt a.kind b.kind) (orC (compareBytes a.key.data.toList b.key.data.toList) (compareBytes a.val.data.toList b.val.data.toList)))
theorem pre_ent : Pre cmpE :=
 (pre_bytes.by fun e : Ent => e.host.data.toList).or ((pre_int.by Ent.kind).or ((pre_bytes.by fun e : Ent => e.key.data.toList).or (pre_bytes.by fun e : Ent => e.val.data.toList)))
theorem or_zero {x y : Int} (h : orC x y = 0) : x = 0 ∧ y = 0 := by
 unfold orC at h
 split at h
 · exact ⟨by assumption, h⟩
 · omega
theorem data_inj {a b : ByteArray} (h : a.data.toList = b.data.toList) : a = b := ByteArray.ext (Array.toList_inj.1 h)
theorem ci_zero {x y : Int} (h : compareInt x y = 0) : x = y := by unfold compareInt at h; split at h <;> (try split at h) <;> omega
theorem ent_ext {a b : Ent} (h1 : a.host = b.host) (h2 : a.kind = b.kind) (h3 : a.key = b.key) (h4 : a.val = b.val) : a = b := by
 cases a; cases b; simp at h1 h2 h3 h4; simp [h1, h2, h3, h4]
theorem cmpE_zero {a b : Ent} (h : cmpE a b = 0) : a = b := by
 obtain ⟨h1, h⟩ := or_zero h
 obtain ⟨h2, h⟩ := or_zero h
 obtain ⟨h3, h4⟩ := or_zero h
 exact ent_ext (data_inj (cb_zero h1)) (ci_zero h2) (data_inj (cb_zero h3)) (data_inj (cb_zero h4))
instance : DecidableEq Ent := fun a b => if h : cmpE a b = 0 then isTrue (cmpE_zero h) else isFalse fun e => h (by rw [e]; exact pre_ent.same b)
instance : Inhabited Ent := ⟨⟨⟨#[]⟩, 0, ⟨#[]⟩, ⟨#[]⟩⟩⟩
theorem swo_ent : SWO (ltOf cmpE) where
 irrefl a := by unfold ltOf; rw [pre_ent.same a]; rfl
 trans a b d h1 h2 := by
  unfold ltOf at *
  rw [decide_eq_true_eq] at *
  exact pre_ent.strict h1 (by omega)
 ntrans a b d h1 h2 := by
  unfold ltOf at *
  rw [decide_eq_false_iff_not] at *
  have g1 := (pre_ent.le_iff b a).2 (by omega)
  have g2 := (pre_ent.le_iff d b).2 (by omega)
  have := (pre_ent.le_iff d a).1 (pre_ent.trans d b a g2 g1)
  omega
theorem total_ent (a b : Ent) (h1 : ltOf cmpE a b = false) (h2 : ltOf cmpE b a = false) : a = b := by
 unfold ltOf at *
 rw [decide_eq_false_iff_not] at *
 have := pre_ent.anti b a
 exact cmpE_zero (by omega)
def Up (l : List Ent) : Prop := l.Pairwise fun a b => cmpE a b < 0
theorem up_nil : Up [] := List.Pairwise.nil
theorem up_same {l m : List Ent} (hl : Up l) (hm : Up m) (h : ∀ e, e ∈ l ↔ e ∈ m) : l = m := by
 unfold Up at hl hm
 induction l generalizing m with
 | nil =>
   cases m with
   | nil => rfl
   | cons b m => exact absurd ((h b).2 (by simp)) (by simp)
 | cons a l ih =>
   cases m with
   | nil => exact absurd ((h a).1 (by simp)) (by simp)
   | cons b m =>
     rw [List.pairwise_cons] at hl hm
     have hab : a = b := by
      rcases List.mem_cons.1 ((h a).1 (by simp)) with e | h1
      · exact e
      · rcases List.mem_cons.1 ((h b).2 (by simp)) with e | h2
        · exact e.symm
        · have g1 := hm.1 a h1
          have g2 := hl.1 b h2
          have := pre_ent.anti a b
          omega
     subst hab
     have hal : ∀ e ∈ l, e ≠ a := fun e he h0 => by have := hl.1 e he; rw [h0, pre_ent.same] at this; omega
     have ham : ∀ e ∈ m, e ≠ a := fun e he h0 => by have := hm.1 e he; rw [h0, pre_ent.same] at this; omega
     rw [ih hl.2 hm.2 fun e => ?_]
     constructor
     · intro he
       rcases List.mem_cons.1 ((h e).1 (by simp [he])) with h0 | h0
       · exact absurd h0 (hal e he)
       · exact h0
     · intro he
       rcases List.mem_cons.1 ((h e).2 (by simp [he])) with h0 | h0
       · exact absurd h0 (ham e he)
       · exact h0
def putE : List Ent → Ent → List Ent
 | [], e => [e]
 | a :: l, e => if cmpE a e = 0 then a :: l else if cmpE e a < 0 then e :: a :: l else a :: putE l e
theorem mem_put {l : List Ent} {e x : Ent} : x ∈ putE l e ↔ x ∈ l ∨ x = e := by
 induction l with
 | nil => simp [putE]
 | cons a l ih =>
   unfold putE
   split
   · rename_i h0
     rw [← cmpE_zero h0]
     simp only [List.mem_cons]
     constructor
     · intro h; exact .inl h
     · rintro (h | h)
       · exact h
       · exact .inl h
   · split
     · simp only [List.mem_cons]
       constructor
       · rintro (h | h)
         · exact .inr h
         · exact .inl h
       · rintro (h | h)
         · exact .inr h
         · exact .inl h
     · simp only [List.mem_cons, ih]
       constructor
       · rintro (h | h | h)
         · exact .inl (.inl h)
         · exact .inl (.inr h)
         · exact .inr h
       · rintro ((h | h) | h)
         · exact .inl h
         · exact .inr (.inl h)
         · exact .inr (.inr h)
theorem up_put {l : List Ent} (e : Ent) (h : Up l) : Up (putE l e) := by
 unfold Up at *
 induction l with
 | nil => simp [putE]
 | cons a l ih =>
   unfold putE
   rw [List.pairwise_cons] at h
   split
   · exact List.pairwise_cons.2 h
   · rename_i h0
     split
     · rename_i h1
       refine List.pairwise_cons.2 ⟨fun x hx => ?_, List.pairwise_cons.2 h⟩
       rcases List.mem_cons.1 hx with rfl | hx
       · exact h1
       · exact pre_ent.strict h1 (by have := h.1 x hx; omega)
     · rename_i h1
       refine List.pairwise_cons.2 ⟨fun x hx => ?_, ih h.2⟩
       rcases mem_put.1 hx with hx | rfl
       · exact h.1 x hx
       · have := (pre_ent.le_iff a x).2 (by omega)
         omega
def setE (l : List Ent) : List Ent := l.foldl putE []
theorem setFrom_spec : ∀ (l s : List Ent), Up s → Up (l.foldl putE s) ∧ ∀ e, e ∈ l.foldl putE s ↔ e ∈ s ∨ e ∈ l
 | [], s, h => ⟨h, fun e => by simp⟩
 | a :: l, s, h => by
   obtain ⟨h1, h2⟩ := setFrom_spec l (putE s a) (up_put a h)
   refine ⟨h1, fun e => ?_⟩
   rw [List.foldl_cons, h2, mem_put, List.mem_cons, or_assoc]
theorem setE_up (l : List Ent) : Up (setE l) := (setFrom_spec l [] up_nil).1
theorem mem_set {l : List Ent} {e : Ent} : e ∈ setE l ↔ e ∈ l := by
 have := (setFrom_spec l [] up_nil).2 e
 unfold setE
 simpa using this
theorem setE_same {l m : List Ent} (h : ∀ e, e ∈ l ↔ e ∈ m) : setE l = setE m := up_same (setE_up l) (setE_up m) fun e => by rw [mem_set, mem_set]; exact h e
theorem setE_of {l m : List Ent} (hm : Up m) (h : ∀ e, e ∈ m ↔ e ∈ l) : m = setE l := up_same hm (setE_up l) fun e => by rw [mem_set]; exact h e
theorem put_len (l : List Ent) (e : Ent) : (putE l e).length ≤ l.length + 1 := by
 induction l with
 | nil => simp [putE]
 | cons a l ih =>
   unfold putE
   split
   · simp
   · split
     · simp
     · simp; omega
theorem setE_len (l : List Ent) : (setE l).length ≤ l.length := by
 have : ∀ (l s : List Ent), (l.foldl putE s).length ≤ s.length + l.length := by
  intro l
  induction l with
  | nil => intro s; simp
  | cons a l ih =>
    intro s
    rw [List.foldl_cons]
    have h1 := ih (putE s a)
    have h2 := put_len s a
    simp; omega
 unfold setE
 simpa using this l []
def compactE : List Ent → List Ent
 | [] => []
 | [a] => [a]
 | a :: b :: l => if a = b then compactE (b :: l) else a :: compactE (b :: l)
def sortE (l : List Ent) : List Ent := l.mergeSort fun x y => !(ltOf cmpE) y x
theorem sortE_mem {l : List Ent} {e : Ent} : e ∈ sortE l ↔ e ∈ l := List.mem_mergeSort
theorem sortE_len (l : List Ent) : (sortE l).length = l.length := by unfold sortE; simp
theorem sortE_le (l : List Ent) : (sortE l).Pairwise fun a b => cmpE a b ≤ 0 := by
 have := List.pairwise_mergeSort (le := fun x y => !(ltOf cmpE) y x) (fun a b d h1 h2 => by
  simp only [Bool.not_eq_true', ltOf, decide_eq_false_iff_not] at *
  have g1 := (pre_ent.le_iff a b).2 (by omega)
  have g2 := (pre_ent.le_iff b d).2 (by omega)
  have := (pre_ent.le_iff a d).1 (pre_ent.trans a b d g1 g2)
  omega) (fun a b => by
  simp only [Bool.or_eq_true, Bool.not_eq_true', ltOf, decide_eq_false_iff_not]
  have := pre_ent.anti a b
  omega) l
 refine this.imp fun {a b} h => ?_
 simp only [Bool.not_eq_true', ltOf, decide_eq_false_iff_not] at h
 exact (pre_ent.le_iff a b).2 (by omega)
theorem compact_mem : ∀ {l : List Ent} {e : Ent}, e ∈ compactE l ↔ e ∈ l
 | [], e => by simp [compactE]
 | [a], e => by simp [compactE]
 | a :: b :: l, e => by
   unfold compactE
   split
   · rename_i h; subst h; rw [compact_mem]; simp
   · rw [List.mem_cons, compact_mem, ← List.mem_cons]
theorem compact_up : ∀ {l : List Ent}, l.Pairwise (fun a b => cmpE a b ≤ 0) → Up (compactE l)
 | [], _ => up_nil
 | [a], _ => by unfold compactE Up; simp
 | a :: b :: l, h => by
   have h2 := (List.pairwise_cons.1 h).2
   have h1 := (List.pairwise_cons.1 h).1
   unfold compactE
   split
   · exact compact_up h2
   · rename_i hne
     refine List.pairwise_cons.2 ⟨fun x hx => ?_, compact_up h2⟩
     have hb : cmpE a b < 0 := by
      have := h1 b (by simp)
      rcases Int.lt_or_eq_of_le this with h4 | h4
      · exact h4
      · exact absurd (cmpE_zero h4) hne
     rcases List.mem_cons.1 (compact_mem.1 hx) with rfl | hx
     · exact hb
     · exact pre_ent.strict hb ((List.pairwise_cons.1 h2).1 x hx)
theorem compact_sort (l : List Ent) : compactE (sortE l) = setE l := setE_of (compact_up (sortE_le l)) fun e => by rw [compact_mem, sortE_mem]
theorem compact_len : ∀ (l : List Ent), (compactE l).length ≤ l.length
 | [] => by simp [compactE]
 | [a] => by simp [compactE]
 | a :: b :: l => by
   unfold compactE
   have := compact_len (b :: l)
   split
   · simp at *; omega
   · simp at *; omega
end Hst
