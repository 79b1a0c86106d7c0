/- Walks: the reference's words, sound and Number (layer 15). -/
import Derived.Test.YtlojeeakjgalpaaDoorFac
import Derived.Test.YtlojeeakjgalpaaDoorParW
namespace Rte
open Go Adr
theorem parts_hit3 {l : List UInt8} {k f : Nat} {D : List (List UInt8)} (h : PRel 32 l k f D) (hk : k < l.length) (hc : l[k] = 32) (h3 : D.length = 3) : (parts 32 l).length ≠ 3 := by
  obtain ⟨-, hp, -⟩ := (h.hit hk hc).form (by omega)
  rw [hp, List.length_append, List.length_append, h3]
  simp; omega
theorem parts_last3 {l : List UInt8} {f : Nat} {D : List (List UInt8)} (h : PRel 32 l l.length f D) (h3 : D.length = 3) : (parts 32 l).length ≠ 3 := by
  have hp := h.last.done
  rw [← hp, List.length_append, h3]; simp
end Rte
namespace Go.Proofs.YtlojeeakjgalpaaDoor
open Go Go.RowKit Rte

def WordsEnd (w : World) (l : List UInt8) (e : Ending) (w' : World) : Prop :=
  ∃ x y z : ByteArray, e = .returned (.tuple #[.agg #[.string x, .string y, .string z], .bool (decide ((Adr.parts 32 l).length = 3))]) ∧ ((Adr.parts 32 l).length = 3 → Adr.parts 32 l = [bs x, bs y, bs z]) ∧ Below w.heap.size w w'

theorem bs_extract (s : ByteArray) (f k : Nat) : bs (s.extract f k) = (s.data.toList.drop f).take (k - f) := Lib.extract_data s f k

structure WS (w : World) (r g : Nat) (x y z : ByteArray) (wr : World) : Prop where
  b : Below w.heap.size w wr
  c0 : wr.cell? ⟨g, 0, none⟩ = some (.string x)
  c1 : wr.cell? ⟨g, 1, none⟩ = some (.string y)
  c2 : wr.cell? ⟨g, 2, none⟩ = some (.string z)
  fg : ∀ j, wr.frozen? ⟨g, j, none⟩ = false
  r0 : wr.cell? ⟨r, 0, none⟩ = some (.string ⟨#[]⟩)
  r1 : wr.cell? ⟨r, 1, none⟩ = some (.string ⟨#[]⟩)
  r2 : wr.cell? ⟨r, 2, none⟩ = some (.string ⟨#[]⟩)
  fr : ∀ j, wr.frozen? ⟨r, j, none⟩ = false
section
variable {w wr : World} {r g : Nat} {x y z : ByteArray}
theorem set_same {W : World} {b o : Nat} {v u : Value} (h : W.cell? ⟨b, o, none⟩ = some u) : (W.setCell ⟨b, o, none⟩ v).cell? ⟨b, o, none⟩ = some v := World.cell?_setCell_same _ _ _ h
theorem set_other {W : World} {b o b' o' : Nat} {v u : Value} (hne : b ≠ b' ∨ o ≠ o') (h : W.cell? ⟨b', o', none⟩ = some u) : (W.setCell ⟨b, o, none⟩ v).cell? ⟨b', o', none⟩ = some u :=
  (World.cell?_setCell_other _ _ _ _ (by intro e; simp only [Addr.mk.injEq] at e; omega)).trans h
theorem WS.set0 (h : WS w r g x y z wr) (hg : w.heap.size ≤ g) (hr : g ≠ r) (v : ByteArray) : WS w r g v y z (wr.setCell ⟨g, 0, none⟩ (.string v)) :=
  ⟨h.b.setCell hg _, set_same h.c0, set_other (.inr (by omega)) h.c1, set_other (.inr (by omega)) h.c2, fun j => by rw [World.frozen?_setCell]; exact h.fg j, set_other (.inl hr) h.r0, set_other (.inl hr) h.r1, set_other (.inl hr) h.r2, fun j => by rw [World.frozen?_setCell]; exact h.fr j⟩
theorem WS.set1 (h : WS w r g x y z wr) (hg : w.heap.size ≤ g) (hr : g ≠ r) (v : ByteArray) : WS w r g x v z (wr.setCell ⟨g, 1, none⟩ (.string v)) :=
  ⟨h.b.setCell hg _, set_other (.inr (by omega)) h.c0, set_same h.c1, set_other (.inr (by omega)) h.c2, fun j => by rw [World.frozen?_setCell]; exact h.fg j, set_other (.inl hr) h.r0, set_other (.inl hr) h.r1, set_other (.inl hr) h.r2, fun j => by rw [World.frozen?_setCell]; exact h.fr j⟩
theorem WS.set2 (h : WS w r g x y z wr) (hg : w.heap.size ≤ g) (hr : g ≠ r) (v : ByteArray) : WS w r g x y v (wr.setCell ⟨g, 2, none⟩ (.string v)) :=
  ⟨h.b.setCell hg _, set_other (.inr (by omega)) h.c0, set_other (.inr (by omega)) h.c1, set_same h.c2, fun j => by rw [World.frozen?_setCell]; exact h.fg j, set_other (.inl hr) h.r0, set_other (.inl hr) h.r1, set_other (.inl hr) h.r2, fun j => by rw [World.frozen?_setCell]; exact h.fr j⟩
end
/-- How far words has come. -/
def WAt (l : List UInt8) (k f q : Nat) (x y z : ByteArray) : Prop := q ≤ 3 ∧ Adr.PRel 32 l k f ([bs x, bs y, bs z].take q)

set_option maxHeartbeats 2000000 in
set_option maxRecDepth 100000 in
theorem words_any (s : ByteArray) (w : World) (hs : s.size ≤ 100000000) :
    Calls Tryd.prog 40 #[.string s] w (WordsEnd w s.data.toList) := by
  have Hz : Hid (s.data.toList.length = s.size) := size_data s
  go_enter Tryd.func40, Tryd.ntmps40
  go_wp2
  have hW : WS w w.heap.size (w.heap.size + 1) ⟨#[]⟩ ⟨#[]⟩ ⟨#[]⟩ ((w.alloc (.cells #[.string ⟨#[]⟩, .string ⟨#[]⟩, .string ⟨#[]⟩] 62)).alloc (.cells #[.string ⟨#[]⟩, .string ⟨#[]⟩, .string ⟨#[]⟩] 62)) := by
    have e1 : (w.alloc (.cells #[.string ⟨#[]⟩, .string ⟨#[]⟩, .string ⟨#[]⟩] 62)).heap.size = w.heap.size + 1 := by simp
    refine ⟨((Below.refl _ _).alloc (Nat.le_refl _) _).alloc (by simp) _, ?_, ?_, ?_, fun j => ?_, ?_, ?_, ?_, fun j => ?_⟩
    · rw [World.cell?_alloc_at _ _ _ _ e1.symm]; rfl
    · rw [World.cell?_alloc_at _ _ _ _ e1.symm]; rfl
    · rw [World.cell?_alloc_at _ _ _ _ e1.symm]; rfl
    · rw [← e1]; simp
    · rw [World.cell?_alloc_lt _ _ _ (by simp), World.cell?_alloc_at _ _ _ _ rfl]; rfl
    · rw [World.cell?_alloc_lt _ _ _ (by simp), World.cell?_alloc_at _ _ _ _ rfl]; rfl
    · rw [World.cell?_alloc_lt _ _ _ (by simp), World.cell?_alloc_at _ _ _ _ rfl]; rfl
    · rw [(Below.alloc (Below.refl (w.alloc (.cells #[.string ⟨#[]⟩, .string ⟨#[]⟩, .string ⟨#[]⟩] 62)).heap.size _) (Nat.le_refl _) _).frozen (p := ⟨w.heap.size, j, none⟩) (by simp)]; simp
  have HW := Lib.hid hW
  clear hW
  obtain ⟨r, hr⟩ : ∃ r, w.heap.size = r := ⟨_, rfl⟩
  obtain ⟨g, hg⟩ : ∃ g, r + 1 = g := ⟨_, rfl⟩
  have HRG : Hid (w.heap.size = r ∧ r + 1 = g) := ⟨hr, hg⟩
  rw [hr, hg] at HW ⊢
  clear hr hg
  go_loopw [5, 6, 7] (fun vq vf vi wr => ∃ (k f q : Nat) (x y z : ByteArray), k ≤ s.size + 1 ∧ f ≤ k ∧ vi = .int .i64 k ∧ vf = .int .i64 f ∧ vq = .int .i64 q ∧ Hid (WAt s.data.toList k f q x y z) ∧ Hid (WS w r g x y z wr)) (fun _ _ vi _ => s.size + 1 - (intOf vi).toNat)
  case atStart => exact ⟨0, 0, 0, ⟨#[]⟩, ⟨#[]⟩, ⟨#[]⟩, by omega, by omega, rfl, rfl, rfl, (show WAt _ _ _ _ _ _ _ from ⟨by omega, Adr.PRel.start _ _⟩), HW⟩
  case round =>
    clear HW
    obtain ⟨k, f, q, x, y, z, hk, hf, rfl, rfl, rfl, HA, HW⟩ := hrel
    have hg1 : w.heap.size ≤ g := by have := HRG.out; omega
    have hg2 : g ≠ r := by have := HRG.out; omega
    by_cases h1 : k ≤ s.size
    · by_cases h2 : k < s.size
      · have hlt2 : k < s.data.toList.length := by rw [Hz.out]; exact h2
        have hget : s.data.toList[k] = s[k] := rfl
        have hne : ((k : Int) == (s.size : Int)) = false := by rw [beq_eq_false_iff_ne]; omega
        by_cases h3 : s[k] = 32
        · have heq : ((s[k].toNat : Int) == 32) = true := by rw [h3]; rfl
          have hq3 := HA.out.1
          have hxp : bs (s.extract f k) = (s.data.toList.drop f).take (k - f) := bs_extract s f k
          have hhit : q < 3 → Adr.PRel 32 s.data.toList (k + 1) (k + 1) ([bs x, bs y, bs z].take q ++ [bs (s.extract f k)]) := fun _ => by
            rw [hxp]; exact HA.out.2.hit hlt2 (hget.trans h3)
          have hbad : Hid (q = 3 → (Adr.parts 32 s.data.toList).length ≠ 3) := fun e => parts_hit3 HA.out.2 hlt2 (hget.trans h3) (by rw [e]; rfl)
          have HHIT := Lib.hid hhit
          clear hhit hxp h3 hget HA
          have hcase : q = 0 ∨ q = 1 ∨ q = 2 ∨ q = 3 := by omega
          clear hq3
          obtain ⟨c0, c1, c2, r0, r1, r2⟩ := show wr.cell? ⟨g, 0, none⟩ = some (.string x) ∧ wr.cell? ⟨g, 1, none⟩ = some (.string y) ∧ wr.cell? ⟨g, 2, none⟩ = some (.string z) ∧ wr.cell? ⟨r, 0, none⟩ = some (.string ⟨#[]⟩) ∧ wr.cell? ⟨r, 1, none⟩ = some (.string ⟨#[]⟩) ∧ wr.cell? ⟨r, 2, none⟩ = some (.string ⟨#[]⟩) from ⟨HW.out.c0, HW.out.c1, HW.out.c2, HW.out.r0, HW.out.r1, HW.out.r2⟩
          have fg := HW.out.fg
          have fr := HW.out.fr
          rcases hcase with hq | hq | hq | hq
          · subst hq
            have HW2 := Lib.hid (HW.out.set0 hg1 hg2 (s.extract f k))
            have HA2 : Hid (WAt s.data.toList (k + 1) (k + 1) 1 (s.extract f k) y z) := ⟨by omega, HHIT.out (by omega)⟩
            clear HW HHIT hbad
            go_wp2_with fail
            go_roundw
            case rel => exact ⟨k + 1, k + 1, 1, s.extract f k, y, z, by omega, by omega, by go_num, by go_num, rfl, HA2, HW2⟩
            case measure => simp [intOf]; omega
          · subst hq
            have HW2 := Lib.hid (HW.out.set1 hg1 hg2 (s.extract f k))
            have HA2 : Hid (WAt s.data.toList (k + 1) (k + 1) 2 x (s.extract f k) z) := ⟨by omega, HHIT.out (by omega)⟩
            clear HW HHIT hbad
            go_wp2_with fail
            go_roundw
            case rel => exact ⟨k + 1, k + 1, 2, x, s.extract f k, z, by omega, by omega, by go_num, by go_num, rfl, HA2, HW2⟩
            case measure => simp [intOf]; omega
          · subst hq
            have HW2 := Lib.hid (HW.out.set2 hg1 hg2 (s.extract f k))
            have HA2 : Hid (WAt s.data.toList (k + 1) (k + 1) 3 x y (s.extract f k)) := ⟨by omega, HHIT.out (by omega)⟩
            clear HW HHIT hbad
            go_wp2_with fail
            go_roundw
            case rel => exact ⟨k + 1, k + 1, 3, x, y, s.extract f k, by omega, by omega, by go_num, by go_num, rfl, HA2, HW2⟩
            case measure => simp [intOf]; omega
          · subst hq
            have hF : Hid (decide ((Adr.parts 32 s.data.toList).length = 3) = false) := decide_eq_false (hbad.out rfl)
            have hbad2 := hbad.out rfl
            have HBAD := Lib.hid hbad2
            have HBW : Hid (Below w.heap.size w (((wr.setCell ⟨r, 0, none⟩ (.string x)).setCell ⟨r, 1, none⟩ (.string y)).setCell ⟨r, 2, none⟩ (.string z))) := ((HW.out.b.setCell (by show w.heap.size ≤ r; have := HRG.out; omega) _).setCell (by show w.heap.size ≤ r; have := HRG.out; omega) _).setCell (by show w.heap.size ≤ r; have := HRG.out; omega) _
            clear hbad2 hbad HW HHIT
            go_wp2_with fail
            have q0 : (((wr.setCell ⟨r, 0, none⟩ (.string x)).setCell ⟨r, 1, none⟩ (.string y)).setCell ⟨r, 2, none⟩ (.string z)).cell? ⟨r, 0, none⟩ = some (.string x) := set_other (.inr (by omega)) (set_other (.inr (by omega)) (set_same r0))
            have q1 : (((wr.setCell ⟨r, 0, none⟩ (.string x)).setCell ⟨r, 1, none⟩ (.string y)).setCell ⟨r, 2, none⟩ (.string z)).cell? ⟨r, 1, none⟩ = some (.string y) := set_other (.inr (by omega)) (set_same (set_other (.inr (by omega)) r1))
            have q2 : (((wr.setCell ⟨r, 0, none⟩ (.string x)).setCell ⟨r, 1, none⟩ (.string y)).setCell ⟨r, 2, none⟩ (.string z)).cell? ⟨r, 2, none⟩ = some (.string z) := set_same (set_other (.inr (by omega)) (set_other (.inr (by omega)) r2))
            generalize ((wr.setCell ⟨r, 0, none⟩ (.string x)).setCell ⟨r, 1, none⟩ (.string y)).setCell ⟨r, 2, none⟩ (.string z) = wf at q0 q1 q2 HBW ⊢
            exact bodyPost_ret (v := .tuple #[.agg #[.string x, .string y, .string z], .bool false]) (by simp [results, Tryd.results40, go_sem, q0, q1, q2]) rfl ⟨x, y, z, by rw [hF.out], fun e => absurd e HBAD.out, HBW.out⟩
        · have hneq : ((s[k].toNat : Int) == 32) = false := by
            rw [beq_eq_false_iff_ne]; intro e; exact h3 (UInt8.toNat_inj.1 (by show _ = 32; omega))
          have HA2 : Hid (WAt s.data.toList (k + 1) f q x y z) := ⟨HA.out.1, HA.out.2.other hlt2 (fun e => h3 (hget.symm.trans e))⟩
          clear h3 hget HA
          go_wp2_with fail
          go_roundw
          case rel => exact ⟨k + 1, f, q, x, y, z, by omega, by omega, by go_num, rfl, rfl, HA2, HW⟩
          case measure => simp [intOf]; omega
      · obtain rfl : k = s.size := by omega
        have heq : ((s.size : Int) == (s.size : Int)) = true := by simp
        have hq3 := HA.out.1
        have hxp : bs (s.extract f s.size) = (s.data.toList.drop f).take (s.size - f) := bs_extract s f s.size
        have hlast : q < 3 → Adr.PRel 32 s.data.toList (s.size + 1) (s.size + 1) ([bs x, bs y, bs z].take q ++ [bs (s.extract f s.size)]) := fun _ => by
          have hP := HA.out.2
          rw [← Hz.out] at hP hxp ⊢
          rw [hxp]; exact hP.last
        have hbad : Hid (q = 3 → (Adr.parts 32 s.data.toList).length ≠ 3) := fun e => by
          have hP := HA.out.2
          rw [← Hz.out] at hP
          exact parts_last3 hP (by rw [e]; rfl)
        have HHIT := Lib.hid hlast
        clear hlast hxp HA
        have hcase : q = 0 ∨ q = 1 ∨ q = 2 ∨ q = 3 := by omega
        clear hq3
        obtain ⟨c0, c1, c2, r0, r1, r2⟩ := show wr.cell? ⟨g, 0, none⟩ = some (.string x) ∧ wr.cell? ⟨g, 1, none⟩ = some (.string y) ∧ wr.cell? ⟨g, 2, none⟩ = some (.string z) ∧ wr.cell? ⟨r, 0, none⟩ = some (.string ⟨#[]⟩) ∧ wr.cell? ⟨r, 1, none⟩ = some (.string ⟨#[]⟩) ∧ wr.cell? ⟨r, 2, none⟩ = some (.string ⟨#[]⟩) from ⟨HW.out.c0, HW.out.c1, HW.out.c2, HW.out.r0, HW.out.r1, HW.out.r2⟩
        have fg := HW.out.fg
        have fr := HW.out.fr
        rcases hcase with hq | hq | hq | hq
        · subst hq
          have HW2 := Lib.hid (HW.out.set0 hg1 hg2 (s.extract f s.size))
          have HA2 : Hid (WAt s.data.toList (s.size + 1) (s.size + 1) 1 (s.extract f s.size) y z) := ⟨by omega, HHIT.out (by omega)⟩
          clear HW HHIT hbad
          go_wp2_with fail
          go_roundw
          case rel => exact ⟨s.size + 1, s.size + 1, 1, s.extract f s.size, y, z, by omega, by omega, by go_num, by go_num, rfl, HA2, HW2⟩
          case measure => simp [intOf]
        · subst hq
          have HW2 := Lib.hid (HW.out.set1 hg1 hg2 (s.extract f s.size))
          have HA2 : Hid (WAt s.data.toList (s.size + 1) (s.size + 1) 2 x (s.extract f s.size) z) := ⟨by omega, HHIT.out (by omega)⟩
          clear HW HHIT hbad
          go_wp2_with fail
          go_roundw
          case rel => exact ⟨s.size + 1, s.size + 1, 2, x, s.extract f s.size, z, by omega, by omega, by go_num, by go_num, rfl, HA2, HW2⟩
          case measure => simp [intOf]
        · subst hq
          have HW2 := Lib.hid (HW.out.set2 hg1 hg2 (s.extract f s.size))
          have HA2 : Hid (WAt s.data.toList (s.size + 1) (s.size + 1) 3 x y (s.extract f s.size)) := ⟨by omega, HHIT.out (by omega)⟩
          clear HW HHIT hbad
          go_wp2_with fail
          go_roundw
          case rel => exact ⟨s.size + 1, s.size + 1, 3, x, y, s.extract f s.size, by omega, by omega, by go_num, by go_num, rfl, HA2, HW2⟩
          case measure => simp [intOf]
        · subst hq
          have hF : Hid (decide ((Adr.parts 32 s.data.toList).length = 3) = false) := decide_eq_false (hbad.out rfl)
          have hbad2 := hbad.out rfl
          have HBAD := Lib.hid hbad2
          have HBW : Hid (Below w.heap.size w (((wr.setCell ⟨r, 0, none⟩ (.string x)).setCell ⟨r, 1, none⟩ (.string y)).setCell ⟨r, 2, none⟩ (.string z))) := ((HW.out.b.setCell (by show w.heap.size ≤ r; have := HRG.out; omega) _).setCell (by show w.heap.size ≤ r; have := HRG.out; omega) _).setCell (by show w.heap.size ≤ r; have := HRG.out; omega) _
          clear hbad2 hbad HW HHIT
          go_wp2_with fail
          have q0 : (((wr.setCell ⟨r, 0, none⟩ (.string x)).setCell ⟨r, 1, none⟩ (.string y)).setCell ⟨r, 2, none⟩ (.string z)).cell? ⟨r, 0, none⟩ = some (.string x) := set_other (.inr (by omega)) (set_other (.inr (by omega)) (set_same r0))
          have q1 : (((wr.setCell ⟨r, 0, none⟩ (.string x)).setCell ⟨r, 1, none⟩ (.string y)).setCell ⟨r, 2, none⟩ (.string z)).cell? ⟨r, 1, none⟩ = some (.string y) := set_other (.inr (by omega)) (set_same (set_other (.inr (by omega)) r1))
          have q2 : (((wr.setCell ⟨r, 0, none⟩ (.string x)).setCell ⟨r, 1, none⟩ (.string y)).setCell ⟨r, 2, none⟩ (.string z)).cell? ⟨r, 2, none⟩ = some (.string z) := set_same (set_other (.inr (by omega)) (set_other (.inr (by omega)) r2))
          generalize ((wr.setCell ⟨r, 0, none⟩ (.string x)).setCell ⟨r, 1, none⟩ (.string y)).setCell ⟨r, 2, none⟩ (.string z) = wf at q0 q1 q2 HBW ⊢
          exact bodyPost_ret (v := .tuple #[.agg #[.string x, .string y, .string z], .bool false]) (by simp [results, Tryd.results40, go_sem, q0, q1, q2]) rfl ⟨x, y, z, by rw [hF.out], fun e => absurd e HBAD.out, HBW.out⟩
    · obtain rfl : k = s.size + 1 := by omega
      have hD : Hid ([bs x, bs y, bs z].take q = Adr.parts 32 s.data.toList) := by
        have hP := HA.out.2
        rw [← Hz.out] at hP
        exact hP.done
      have hq3 := HA.out.1
      obtain ⟨c0, c1, c2, r0, r1, r2⟩ := show wr.cell? ⟨g, 0, none⟩ = some (.string x) ∧ wr.cell? ⟨g, 1, none⟩ = some (.string y) ∧ wr.cell? ⟨g, 2, none⟩ = some (.string z) ∧ wr.cell? ⟨r, 0, none⟩ = some (.string ⟨#[]⟩) ∧ wr.cell? ⟨r, 1, none⟩ = some (.string ⟨#[]⟩) ∧ wr.cell? ⟨r, 2, none⟩ = some (.string ⟨#[]⟩) from ⟨HW.out.c0, HW.out.c1, HW.out.c2, HW.out.r0, HW.out.r1, HW.out.r2⟩
      have fg := HW.out.fg
      have fr := HW.out.fr
      have HBW : Hid (Below w.heap.size w (((wr.setCell ⟨r, 0, none⟩ (.string x)).setCell ⟨r, 1, none⟩ (.string y)).setCell ⟨r, 2, none⟩ (.string z))) := ((HW.out.b.setCell (by show w.heap.size ≤ r; have := HRG.out; omega) _).setCell (by show w.heap.size ≤ r; have := HRG.out; omega) _).setCell (by show w.heap.size ≤ r; have := HRG.out; omega) _
      have hlen : Hid ((Adr.parts 32 s.data.toList).length = q) := by
        show _ = _
        rw [← hD.out, List.length_take]; simp; omega
      have HFF : Hid (decide ((Adr.parts 32 s.data.toList).length = 3) = ((q : Int) == 3)) := by
        show _ = _
        rw [hlen.out, Bool.eq_iff_iff, decide_eq_true_eq, beq_iff_eq]; omega
      have HEQ : Hid ((Adr.parts 32 s.data.toList).length = 3 → Adr.parts 32 s.data.toList = [bs x, bs y, bs z]) := fun e => by
        have : q = 3 := hlen.out.symm.trans e
        rw [← hD.out, this]; rfl
      clear HW HA hD hlen
      go_wp2_with fail
      have q0 : (((wr.setCell ⟨r, 0, none⟩ (.string x)).setCell ⟨r, 1, none⟩ (.string y)).setCell ⟨r, 2, none⟩ (.string z)).cell? ⟨r, 0, none⟩ = some (.string x) := set_other (.inr (by omega)) (set_other (.inr (by omega)) (set_same r0))
      have q1 : (((wr.setCell ⟨r, 0, none⟩ (.string x)).setCell ⟨r, 1, none⟩ (.string y)).setCell ⟨r, 2, none⟩ (.string z)).cell? ⟨r, 1, none⟩ = some (.string y) := set_other (.inr (by omega)) (set_same (set_other (.inr (by omega)) r1))
      have q2 : (((wr.setCell ⟨r, 0, none⟩ (.string x)).setCell ⟨r, 1, none⟩ (.string y)).setCell ⟨r, 2, none⟩ (.string z)).cell? ⟨r, 2, none⟩ = some (.string z) := set_same (set_other (.inr (by omega)) (set_other (.inr (by omega)) r2))
      generalize ((wr.setCell ⟨r, 0, none⟩ (.string x)).setCell ⟨r, 1, none⟩ (.string y)).setCell ⟨r, 2, none⟩ (.string z) = wf at q0 q1 q2 HBW ⊢
      exact bodyPost_ret (v := .tuple #[.agg #[.string x, .string y, .string z], .bool ((q : Int) == 3)]) (by simp [results, Tryd.results40, go_sem, q0, q1, q2]) rfl ⟨x, y, z, by rw [HFF.out], HEQ.out, HBW.out⟩
end Go.Proofs.YtlojeeakjgalpaaDoor
