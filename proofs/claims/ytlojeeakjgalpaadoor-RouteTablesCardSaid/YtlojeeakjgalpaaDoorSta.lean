/- A walk: the library's stable sort (stableCmpFunc, SortStableFunc) at a row of places. -/
import Derived.Test.YtlojeeakjgalpaaDoorMrh
namespace Go.Proofs.YtlojeeakjgalpaaDoor
open Go Go.RowKit Go.Sort

set_option maxHeartbeats 3000000 in
set_option maxRecDepth 1000000 in
theorem stable_any (n : Nat) (cf : Nat → Nat → Int) (vp vq : Value) (w0 : World) (blk off cap N : Nat) (s : Nat → Nat → Bool) (T : StS.Tot s) (hC : CmpOk n cf vp vq w0 blk) (hsz : N < 1000000000) (d : Array Nat) (W : World) (hsN : d.size = N) (S : Sw w0 blk off d W) (hn : Lt n d) (hA : StS.AgIn (ltf cf) s 0 N d) :
    Calls Tryd.prog 52 #[.slice (some ⟨blk, off, none⟩) N cap, .int .i64 N, .func (.func 38) #[] #[vp, vq]] W fun e w' => e = .returned (.tuple #[]) ∧ ∃ d', PermIn 0 N d d' ∧ SortedIn s 0 N d' ∧ Sw w0 blk off d' w' := by
  have S0 : Hid (Sw w0 blk off d W) := S
  have HC : Hid (CmpOk n cf vp vq w0 blk) := hC
  have HN : Hid (Lt n d) := hn
  have HS : Hid (d.size = N) := hsN
  have HA : Hid (StS.AgIn (ltf cf) s 0 N d) := hA
  have P0 : Hid (StS.Ph0 (ltf cf) s N 20 0 d d) := StS.ph0_start hA
  clear S hC hn hsN hA
  go_enter Tryd.func52, Tryd.ntmps52
  go_wp2
  go_loopw [7, 8] (fun va vb wr => ∃ (r α β : Nat) (dk : Array Nat), va = .int .i64 α ∧ vb = .int .i64 β ∧ Hid (r * 20 = α) ∧ α + 20 = β ∧ α ≤ N ∧ Hid (StS.Ph0 (ltf cf) s N 20 r d dk) ∧ Hid (Sw w0 blk off dk wr)) (fun _ vb _ => N + 21 - (intOf vb).toNat)
  case atStart => exact ⟨0, 0, 20, d, rfl, rfl, rfl, rfl, Nat.zero_le _, P0, S0⟩
  case round =>
    clear S0 P0
    obtain ⟨r, α, β, dk, rfl, rfl, hα, hβ, hαN, P1, S1⟩ := hrel
    have N1 : Hid (Lt n dk) := HN.out.perm (by rw [HS.out]; exact Nat.le_refl _) P1.out.perm
    have Z1 : Hid (dk.size = N) := by show _ = _; rw [P1.out.perm.1]; exact HS.out
    by_cases hlt : β ≤ N
    · have hltz : (β : Int) ≤ (N : Int) := by omega
      have HI := Lib.hid (insertion_any n cf vp vq w0 blk off cap α β dk wr HC.out S1.out N1.out (by omega) (by rw [Z1.out]; exact hlt) (by rw [Z1.out]; omega))
      rw [Z1.out] at HI
      have hP := StS.insertion_ag (lt := ltf cf) T dk α β (by omega) (by rw [Z1.out]; exact hlt) (by rw [← hα.out]; exact P1.out.ag HA.out hlt)
      have P2 : Hid (StS.Ph0 (ltf cf) s N 20 (r + 1) d (insertionSort (ltf cf) dk α β)) := by
        have hb : (r + 1) * 20 = β := by have := hα.out; omega
        refine P1.out.step (by rw [HS.out]; exact Nat.le_refl _) (by omega) ?_ ?_
        · rw [hα.out, hb]; exact hP.1
        · rw [hα.out, hb]; exact hP.2
      clear hP
      go_wp2_with fail
      refine HI.out.mono ?_
      rintro e w1 ⟨rfl, S2⟩
      have S3 : Hid (Sw w0 blk off (insertionSort (ltf cf) dk α β) w1) := S2
      clear S1 S2 HI P1
      go_wp2
      go_roundw
      case rel => exact ⟨r + 1, β, β + 20, _, rfl, by first | rfl | go_num, (show _ = _ by have := hα.out; omega), rfl, hlt, P2, S3⟩
      case measure => simp [intOf]; omega
    · have hltz : ¬ (β : Int) ≤ (N : Int) := by omega
      have HI := Lib.hid (insertion_any n cf vp vq w0 blk off cap α N dk wr HC.out S1.out N1.out hαN (by rw [Z1.out]; exact Nat.le_refl _) (by rw [Z1.out]; omega))
      rw [Z1.out] at HI
      have hP := StS.insertion_ag (lt := ltf cf) T dk α N hαN (by rw [Z1.out]; exact Nat.le_refl _) (by rw [← hα.out]; exact P1.out.ag HA.out (Nat.le_refl _))
      have P2 : Hid (StS.Ph (ltf cf) s N 20 d (insertionSort (ltf cf) dk α N)) := by
        refine P1.out.last (by rw [HS.out]; exact Nat.le_refl _) (by rw [hα.out]; exact hαN) (by have := hα.out; omega) ?_ ?_
        · rw [hα.out]; exact hP.1
        · rw [hα.out]; exact hP.2
      clear hP
      go_wp2_with fail
      refine HI.out.mono ?_
      rintro e w1 ⟨rfl, S2⟩
      have S3 : Hid (Sw w0 blk off (insertionSort (ltf cf) dk α N) w1) := S2
      clear S1 S2 HI P1 Z1 N1
      go_wp2
      go_loopw [6] (fun vB wr => ∃ (B : Nat) (dk : Array Nat), vB = .int .i64 B ∧ 0 < B ∧ B ≤ 2000000000 ∧ Hid (StS.Ph (ltf cf) s N B d dk) ∧ Hid (Sw w0 blk off dk wr)) (fun vB _ => N - (intOf vB).toNat)
      case atStart => exact ⟨20, _, rfl, by omega, by omega, P2, S3⟩
      case round =>
        clear S3 P2 hα hβ hltz hlt hαN
        obtain ⟨B, dm, rfl, hB0, hB1, P2, S3⟩ := hrel
        have hZm : dm.size = N := by rw [P2.out.perm.1]; exact HS.out
        have Zm : Hid (dm.size = N) := hZm
        clear hZm
        by_cases hBN : B < N
        · have hBz : (B : Int) < (N : Int) := by omega
          obtain ⟨C, hCB⟩ : ∃ C, 2 * B = C := ⟨_, rfl⟩
          have eC : 2 * (B : Int) = (C : Int) := by omega
          have eC2 : (B : Int) * 2 = (C : Int) := by omega
          have M0 : Hid (StS.Md (ltf cf) s N B 0 dm dm) := StS.md_start P2.out
          have HCB : Hid (2 * B = C) := hCB
          have hC1 : B < C := by omega
          have hC2 : C ≤ 2 * B := by omega
          clear hCB
          go_wp2
          go_loopw [7, 8] (fun va vb wr => ∃ (r α β : Nat) (dk : Array Nat), va = .int .i64 α ∧ vb = .int .i64 β ∧ Hid (r * C = α) ∧ α + C = β ∧ α ≤ N ∧ Hid (StS.Md (ltf cf) s N B r dm dk) ∧ Hid (Sw w0 blk off dk wr)) (fun _ vb _ => N + C + 1 - (intOf vb).toNat)
          case atStart => exact ⟨0, 0, C, dm, rfl, rfl, (show _ = _ from Nat.zero_mul _), Nat.zero_add _, Nat.zero_le _, M0, S3⟩
          case round =>
            clear S3 M0
            obtain ⟨r, α, β, dk, rfl, rfl, hα, hβ, hαN, M1, S1⟩ := hrel
            have N1 : Hid (Lt n dk) := (HN.out.perm (by rw [HS.out]; exact Nat.le_refl _) P2.out.perm).perm (by rw [Zm.out]; exact Nat.le_refl _) M1.out.perm
            have Z1 : Hid (dk.size = N) := by show _ = _; rw [M1.out.perm.1]; exact Zm.out
            obtain ⟨μ, hμ⟩ : ∃ μ, α + B = μ := ⟨_, rfl⟩
            have eμ : (α : Int) + (B : Int) = (μ : Int) := by omega
            have hα2 : Hid (r * (2 * B) = α) := by show _ = _; rw [HCB.out]; exact hα.out
            have hβ2 : Hid ((r + 1) * (2 * B) = β) := by show _ = _; rw [Nat.succ_mul, hα2.out, HCB.out]; exact hβ
            by_cases hlt : β ≤ N
            · have hltz : (β : Int) ≤ (N : Int) := by omega
              have hR := M1.out.runs P2.out (b := β) (by rw [Zm.out]; exact Nat.le_refl _) hB0 hlt (by rw [hβ2.out]; exact Nat.le_refl _) (by rw [hα2.out]; omega)
              rw [hα2.out, hμ] at hR
              have HI := Lib.hid (merge_all n cf vp vq w0 blk off cap N s T HC.out (by omega) (β - α) α μ β dk wr (Nat.le_refl _) Z1.out S1.out N1.out hR)
              clear hR
              go_wp2_with fail
              refine HI.out.mono ?_
              rintro e w1 ⟨rfl, d2, hM, S2⟩
              have S4 : Hid (Sw w0 blk off d2 w1) := S2
              have M2 : Hid (StS.Md (ltf cf) s N B (r + 1) dm d2) := M1.out.step (by rw [Zm.out]; exact Nat.le_refl _) (by rw [hβ2.out]; exact hlt) (by rw [hβ2.out, hα2.out]; exact hM)
              clear S1 S2 HI M1 hM
              go_wp2
              go_roundw
              case rel => exact ⟨r + 1, β, β + C, d2, rfl, by first | rfl | go_num, (show _ = _ by rw [Nat.succ_mul, hα.out]; exact hβ), rfl, hlt, M2, S4⟩
              case measure => simp [intOf]; omega
            · have hltz : ¬ (β : Int) ≤ (N : Int) := by omega
              by_cases hm : μ < N
              · have hmz : (μ : Int) < (N : Int) := by omega
                have hR := M1.out.runs P2.out (b := N) (by rw [Zm.out]; exact Nat.le_refl _) hB0 (Nat.le_refl _) (by rw [hβ2.out]; omega) (by rw [hα2.out]; omega)
                rw [hα2.out, hμ] at hR
                have HI := Lib.hid (merge_all n cf vp vq w0 blk off cap N s T HC.out (by omega) (N - α) α μ N dk wr (Nat.le_refl _) Z1.out S1.out N1.out hR)
                clear hR
                go_wp2_with fail
                refine HI.out.mono ?_
                rintro e w1 ⟨rfl, d2, hM, S2⟩
                have S4 : Hid (Sw w0 blk off d2 w1) := S2
                have P3 : Hid (StS.Ph (ltf cf) s N C d d2) := by
                  have := M1.out.last P2.out (by rw [HS.out]; exact Nat.le_refl _) (by rw [hβ2.out]; omega) (by rw [hα2.out]; exact hM.1) (by rw [hα2.out]; exact hM.2) (by rw [hα2.out]; exact hαN)
                  rwa [HCB.out] at this
                clear S1 S2 HI M1 hM
                go_wp2
                go_roundw
                case rel => exact ⟨C, d2, rfl, by omega, by omega, P3, S4⟩
                case measure => simp [intOf]; omega
              · have hmz : ¬ (μ : Int) < (N : Int) := by omega
                have P3 : Hid (StS.Ph (ltf cf) s N C d dk) := by
                  have := M1.out.last P2.out (by rw [HS.out]; exact Nat.le_refl _) (by rw [hβ2.out]; omega) (permIn_refl _ _ _) (M1.out.one P2.out (by rw [hα2.out]; omega)) (by rw [hα2.out]; exact hαN)
                  rwa [HCB.out] at this
                clear M1
                go_wp2
                go_roundw
                case rel => exact ⟨C, dk, rfl, by omega, by omega, P3, S1⟩
                case measure => simp [intOf]; omega
        · have hBz : ¬ (B : Int) < (N : Int) := by omega
          go_wp2
          go_end0
          exact ⟨rfl, dm, P2.out.perm, P2.out.all (by omega), S3.out⟩

set_option maxHeartbeats 1000000 in
set_option maxRecDepth 100000 in
theorem sortStable_any (n : Nat) (cf : Nat → Nat → Int) (vp vq : Value) (w0 : World) (blk off cap N : Nat) (s : Nat → Nat → Bool) (T : StS.Tot s) (hC : CmpOk n cf vp vq w0 blk) (hsz : N < 1000000000) (d : Array Nat) (W : World) (hsN : d.size = N) (S : Sw w0 blk off d W) (hn : Lt n d) (hA : StS.AgIn (ltf cf) s 0 N d) :
    Calls Tryd.prog 37 #[.slice (some ⟨blk, off, none⟩) N cap, .func (.func 38) #[] #[vp, vq]] W fun e w' => e = .returned (.tuple #[]) ∧ ∃ d', PermIn 0 N d d' ∧ SortedIn s 0 N d' ∧ Sw w0 blk off d' w' := by
  have HI := Lib.hid (stable_any n cf vp vq w0 blk off cap N s T hC hsz d W hsN S hn hA)
  clear hC S hn hA T
  go_enter Tryd.func37, Tryd.ntmps37
  go_wp2_with fail
  refine HI.out.mono ?_
  rintro e w1 ⟨rfl, d2, h1, h2, h3⟩
  have K : Hid _ := And.intro h1 (And.intro h2 h3)
  clear HI h1 h2 h3
  go_wp2
  go_end0
  exact ⟨rfl, d2, K.out.1, K.out.2.1, K.out.2.2⟩
/-- Nothing to sort. -/
theorem insertion_none (cap : Nat) (fv : Value) (W : World) :
    Calls Tryd.prog 66 #[.slice none 0 cap, .int .i64 0, .int .i64 0, fv] W fun e w' => e = .returned (.tuple #[]) ∧ W = w' := by
  go_enter Tryd.func66, Tryd.ntmps66
  go_wp2
  go_loop [8] (fun vi => vi = .int .i64 1) (fun _ => 0)
  case atStart => rfl
  case round =>
    subst hrel
    go_wp2
    go_end0
    exact ⟨rfl, rfl⟩
set_option maxHeartbeats 1000000 in
theorem stable_none (cap : Nat) (fv : Value) (W : World) :
    Calls Tryd.prog 52 #[.slice none 0 cap, .int .i64 0, fv] W fun e w' => e = .returned (.tuple #[]) ∧ W = w' := by
  go_enter Tryd.func52, Tryd.ntmps52
  go_wp2
  go_loop [7, 8] (fun va vb => va = .int .i64 0 ∧ vb = .int .i64 20) (fun _ _ => 0)
  case atStart => exact ⟨rfl, rfl⟩
  case round =>
    obtain ⟨rfl, rfl⟩ := hrel
    go_wp2_with fail
    refine (insertion_none cap fv W).mono ?_
    rintro e w1 ⟨rfl, rfl⟩
    go_wp2
    go_loop [6] (fun va => va = .int .i64 20) (fun _ => 0)
    case atStart => rfl
    case round =>
      subst hrel
      go_wp2
      go_end0
      exact ⟨rfl, rfl⟩
theorem sortStable_none (cap : Nat) (fv : Value) (W : World) :
    Calls Tryd.prog 37 #[.slice none 0 cap, fv] W fun e w' => e = .returned (.tuple #[]) ∧ W = w' := by
  go_enter Tryd.func37, Tryd.ntmps37
  go_wp2_with fail
  refine (stable_none cap fv W).mono ?_
  rintro e w1 ⟨rfl, rfl⟩
  go_wp2
  go_end0
  exact ⟨rfl, rfl⟩
end Go.Proofs.YtlojeeakjgalpaaDoor
