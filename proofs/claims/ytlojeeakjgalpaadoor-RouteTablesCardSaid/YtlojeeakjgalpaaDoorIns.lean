/- A walk: the sort of a block (insertionSortCmpFunc) at a row of places, by a function that compares and may make memory. -/
import Derived.Test.YtlojeeakjgalpaaDoorSw
namespace Go.Proofs.YtlojeeakjgalpaaDoor
open Go Go.RowKit Go.Sort

def ltf (cf : Nat → Nat → Int) (x y : Nat) : Bool := decide (cf x y < 0)
/-- What is asked of the one that compares: in each world of the sort it tells what cf tells, and turns nothing. -/
def CmpOk (n : Nat) (cf : Nat → Nat → Int) (vp vq : Value) (w0 : World) (blk : Nat) : Prop :=
  ∀ W, Kp w0 blk W → ∀ x y : Nat, x < n → y < n → Calls Tryd.prog 38 #[.int .i64 x, .int .i64 y, vp, vq] W fun e w' => e = .returned (.int .i64 (cf x y)) ∧ Below W.heap.size W w'
def Lt (n : Nat) (d : Array Nat) : Prop := ∀ i, i < d.size → d[i]! < n
theorem Lt.swp {n : Nat} {d : Array Nat} (h : Lt n d) {i j : Nat} (hi : i < d.size) (hj : j < d.size) : Lt n (swp d i j) := by
  intro q hq
  rw [swp_size] at hq
  rw [swp_get d hi hj]
  repeat' split
  · exact h i hi
  · exact h j hj
  · exact h q hq
theorem Lt.perm {n a b : Nat} {d d' : Array Nat} (h : Lt n d) (hb : b ≤ d.size) (hP : PermIn a b d d') : Lt n d' := by
  intro q hq
  rw [hP.1] at hq
  by_cases hin : a ≤ q ∧ q < b
  · exact permIn_all d d' a b (fun x => x < n) hb hP (fun i _ hi => h i (by omega)) q hin.1 hin.2
  · rw [hP.2.1 q (by omega)]; exact h q hq
theorem Sw.cmp {n : Nat} {cf : Nat → Nat → Int} {vp vq : Value} {w0 W : World} {blk off : Nat} {d : Array Nat} (h : Sw w0 blk off d W) (hC : CmpOk n cf vp vq w0 blk) {x y : Nat} (hx : x < n) (hy : y < n) (m : Nat) (os : Array Obj) :
    Calls Tryd.prog 38 #[.int .i64 x, .int .i64 y, vp, vq] (grow (redrawn W m) os) fun e w' => e = .returned (.int .i64 (cf x y)) ∧ ∃ p : Regrown, w' = grow (redrawn W p.d) p.os :=
  Calls.regrown_of (hC _ (h.regrown m os).kp x y hx hy)

set_option maxHeartbeats 8000000 in
set_option maxRecDepth 1000000 in
theorem insertion_any (n : Nat) (cf : Nat → Nat → Int) (vp vq : Value) (w0 : World) (blk off cap a b : Nat) (d : Array Nat) (W : World) (hC : CmpOk n cf vp vq w0 blk) (S : Sw w0 blk off d W) (hn : Lt n d) (hab : a ≤ b) (hb : b ≤ d.size) (hsz : d.size < 4611686018427387904) :
    Calls Tryd.prog 66 #[.slice (some ⟨blk, off, none⟩) d.size cap, .int .i64 a, .int .i64 b, .func (.func 38) #[] #[vp, vq]] W fun e w' => e = .returned (.tuple #[]) ∧ Sw w0 blk off (insertionSort (ltf cf) d a b) w' := by
  have S0 : Hid (Sw w0 blk off d W) := S
  have HC : Hid (CmpOk n cf vp vq w0 blk) := hC
  have HN : Hid (Lt n d) := hn
  have mixed : Tryd.prog.follows .mixedOrders = true := by kernel_rfl
  clear S hC hn
  go_enter Tryd.func66, Tryd.ntmps66
  go_wp2
  go_loopw [8] (fun vi wr => ∃ (i : Nat) (dk : Array Nat), vi = .int .i64 i ∧ a < i ∧ i ≤ b + 1 ∧ dk.size = d.size ∧ Hid (Lt n dk) ∧ Hid (Sw w0 blk off dk wr) ∧ Hid (insOuter (ltf cf) a b i dk = insOuter (ltf cf) a b (a + 1) d)) (fun vi _ => b + 1 - (intOf vi).toNat)
  case atStart => exact ⟨a + 1, d, by go_num, by omega, by omega, rfl, HN, S0, rfl⟩
  case round =>
    clear S0 HN
    obtain ⟨i, dk, rfl, hai, hib, hsk, N1, S1, HO⟩ := hrel
    by_cases hlt : i < b
    · have hltz : (i : Int) < (b : Int) := by omega
      go_wp2
      go_loopw [9] (fun vj wr => ∃ (j : Nat) (dj : Array Nat), vj = .int .i64 j ∧ a ≤ j ∧ j ≤ i ∧ dj.size = d.size ∧ Hid (Lt n dj) ∧ Hid (Sw w0 blk off dj wr) ∧ Hid (insInner (ltf cf) a j dj = insInner (ltf cf) a i dk)) (fun vj _ => (intOf vj).toNat)
      case atStart => exact ⟨i, dk, rfl, by omega, Nat.le_refl _, hsk, N1, S1, rfl⟩
      case round =>
        clear S1 N1
        obtain ⟨j, dj, rfl, haj, hji, hsj, NJ, SJ, HI⟩ := hrel
        have out : (j ≤ a ∨ ltf cf dj[j]! dj[j - 1]! = false) → Hid (insOuter (ltf cf) a b (i + 1) dj = insOuter (ltf cf) a b (a + 1) d) := fun hs => by
          show _ = _
          rw [← HO.out, StS.insOuter_go _ _ _ _ _ hlt, ← HI.out]
          congr 1
          exact (StS.insInner_stop _ _ _ _ hs).symm
        have OUT : Hid _ := out
        clear out
        by_cases hja : a < j
        · have hjaz : (a : Int) < (j : Int) := by omega
          obtain ⟨p, hp⟩ : ∃ p, p + 1 = j := ⟨j - 1, by omega⟩
          have e1 : (j : Int) - 1 = (p : Int) := by omega
          have lj : j < d.size := by omega
          have lp : p < d.size := by omega
          have c1 := fun m os => SJ.out.cl j (by omega) m os
          have c2 := fun m os => SJ.out.cl p (by omega) m os
          have hcmp := fun m os => SJ.out.cmp HC.out (NJ.out j (by omega)) (NJ.out p (by omega)) m os
          have hsw : Hid (ltf cf dj[j]! dj[p]! = true → insInner (ltf cf) a p (swp dj j p) = insInner (ltf cf) a i dk) := fun hl => by
            rw [← HI.out]
            have := StS.insInner_go (ltf cf) a j dj hja (by rw [show j - 1 = p by omega]; exact hl)
            rw [show j - 1 = p by omega] at this
            exact this.symm
          have hst : Hid (ltf cf dj[j]! dj[p]! = false → insOuter (ltf cf) a b (i + 1) dj = insOuter (ltf cf) a b (a + 1) d) := fun hl => OUT.out (.inr (by rw [show j - 1 = p by omega]; exact hl))
          have NS : Hid (Lt n (swp dj j p)) := NJ.out.swp (by omega) (by omega)
          have SS : Hid (∀ W', Sw w0 blk off dj W' → Sw w0 blk off (swp dj j p) ((W'.setCell ⟨blk, off + j, none⟩ (pl dj[p]!)).setCell ⟨blk, off + p, none⟩ (pl dj[j]!))) := fun W' h => h.swap j p (by omega) (by omega)
          have CC : Hid (∀ W', Sw w0 blk off dj W' → W'.cell? ⟨blk, off + j, none⟩ = some (pl dj[j]!) ∧ W'.cell? ⟨blk, off + p, none⟩ = some (pl dj[p]!) ∧ W'.frozen? ⟨blk, off + j, none⟩ = false ∧ W'.frozen? ⟨blk, off + p, none⟩ = false ∧ ∃ u, (W'.setCell ⟨blk, off + j, none⟩ (pl dj[p]!)).cell? ⟨blk, off + p, none⟩ = some u) := fun W' h => ⟨h.c j (by omega), h.c p (by omega), h.f j (by omega), h.f p (by omega), h.c2 j p (by omega) (by omega) _⟩
          clear OUT
          obtain ⟨x, hx⟩ : ∃ x, dj[j]! = x := ⟨_, rfl⟩
          obtain ⟨y, hy⟩ : ∃ x, dj[p]! = x := ⟨_, rfl⟩
          rw [hx] at c1
          rw [hy] at c2
          rw [hx, hy] at hcmp hsw hst SS CC
          by_cases hv : cf x y < 0
          · go_wp2_with fail
            refine wp_region_quiet_below (by kernel_rfl) (by kernel_rfl) ?_
            repeat (go_big_quiet_step ((go_at_call 38; exact hcmp _ _)))
            refine wpQuiet_nil ?_
            intro _ hw'
            obtain ⟨⟨dq, osq⟩, hw''⟩ := hw'
            subst hw''
            have S2 : Hid (Sw w0 blk off dj (grow (redrawn wr dq) osq)) := SJ.out.regrown dq osq
            clear c1 c2 hcmp SJ
            generalize grow (redrawn wr dq) osq = w2 at S2 ⊢
            obtain ⟨ca, cb, fa, fb, u, cc⟩ := CC.out w2 S2.out
            have S3 : Hid (Sw w0 blk off (swp dj j p) ((w2.setCell ⟨blk, off + j, none⟩ (.int .i64 (y : Int))).setCell ⟨blk, off + p, none⟩ (.int .i64 (x : Int))).drew) := (SS.out w2 S2.out).drew
            clear S2 SS CC
            go_wp2_with fail
            go_big_region_o
            clear ca cb fa fb cc
            generalize ((w2.setCell ⟨blk, off + j, none⟩ (.int .i64 (y : Int))).setCell ⟨blk, off + p, none⟩ (.int .i64 (x : Int))).drew = w3 at S3 ⊢
            go_wp2
            go_roundw
            case rel => exact ⟨p, swp dj j p, by first | rfl | go_num, by omega, by omega, by rw [swp_size]; exact hsj, NS, S3, hsw.out (decide_eq_true hv)⟩
            case measure => simp [intOf]; omega
          · go_wp2_with fail
            refine wp_region_quiet_below (by kernel_rfl) (by kernel_rfl) ?_
            repeat (go_big_quiet_step ((go_at_call 38; exact hcmp _ _)))
            refine wpQuiet_nil ?_
            intro _ hw'
            obtain ⟨⟨dq, osq⟩, hw''⟩ := hw'
            subst hw''
            have S2 : Hid (Sw w0 blk off dj (grow (redrawn wr dq) osq)) := SJ.out.regrown dq osq
            clear c1 c2 hcmp SJ SS CC
            generalize grow (redrawn wr dq) osq = w2 at S2 ⊢
            go_wp2
            go_roundw
            case rel => exact ⟨i + 1, dj, by go_num, by omega, by omega, hsj, NJ, S2, hst.out (decide_eq_false (by omega))⟩
            case measure => simp [intOf]; omega
        · have hjaz : ¬ (a : Int) < (j : Int) := by omega
          have hjd : decide ((a : Int) < (j : Int)) = false := decide_eq_false hjaz
          have hst := OUT.out (.inl (by omega))
          have HST : Hid _ := hst
          clear hst OUT
          go_wp2_with fail
          refine wp_region_quiet_below (by kernel_rfl) (by kernel_rfl) ?_
          repeat (go_big_quiet_step (fail))
          refine wpQuiet_nil ?_
          intro _ hw'
          obtain ⟨⟨dq, osq⟩, hw''⟩ := hw'
          subst hw''
          have S2 : Hid (Sw w0 blk off dj (grow (redrawn wr dq) osq)) := SJ.out.regrown dq osq
          clear SJ
          generalize grow (redrawn wr dq) osq = w2 at S2 ⊢
          go_wp2
          go_roundw
          case rel => exact ⟨i + 1, dj, by go_num, by omega, by omega, hsj, NJ, S2, HST.out⟩
          case measure => simp [intOf]; omega
    · have hltz : ¬ (i : Int) < (b : Int) := by omega
      go_wp2
      go_end0
      exact ⟨rfl, by unfold insertionSort; rw [← HO.out, StS.insOuter_stop _ _ _ _ _ hlt]; exact S1.out⟩
end Go.Proofs.YtlojeeakjgalpaaDoor
