/- A walk: the law AddrIn. -/
import Derived.Test.YtlojeeakjgalpaaDoorLawD
import Derived.Lib.QuietBelow
import Derived.BigQuiet
namespace Go.Proofs.YtlojeeakjgalpaaDoor
open Go.RowKit Go.Sort

theorem regrown_same {P : Program} {f : FuncId} {args : Array Value} {w : World} {d : Nat} {os : Array Obj} {v : Value} (h : Calls P f args (grow (redrawn w d) os) fun e w' => e = .returned v ∧ grow (redrawn w d) os = w') :
    Calls P f args (grow (redrawn w d) os) fun e w'' => e = .returned v ∧ ∃ p : Regrown, w'' = grow (redrawn w p.d) p.os := h.mono fun _ _ ⟨he, hm⟩ => ⟨he, ⟨d, os⟩, hm.symm⟩

set_option maxHeartbeats 4000000 in
set_option maxRecDepth 100000 in
theorem addrIn_any (ip other bits less : Int) (w : World) (hE : Env w) (hi : 0 ≤ ip ∧ ip ≤ 18446744073709551615) (hm : 0 ≤ other ∧ other ≤ 18446744073709551615) (hb : 0 ≤ bits ∧ bits ≤ 255) (hl : 0 ≤ less ∧ less ≤ 255) :
    Calls Tryd.prog 3 #[.int .u64 ip, .int .u64 other, .int .u8 bits, .int .u8 less] w fun e w' => e = .returned (.bool true) ∧ Below w.heap.size w w' := by
  obtain ⟨hi0, hi1⟩ := hi
  obtain ⟨hm0, hm1⟩ := hm
  obtain ⟨hb0, hb1⟩ := hb
  obtain ⟨hl0, hl1⟩ := hl
  obtain ⟨N, hN⟩ : ∃ N, ip % 4294967296 = N := ⟨_, rfl⟩
  obtain ⟨K, hK⟩ : ∃ K, other % 4294967296 = K := ⟨_, rfl⟩
  obtain ⟨B, hB⟩ : ∃ B, bits % 33 = B := ⟨_, rfl⟩
  have n0 : 0 ≤ N := by omega
  have n1 : N < 4294967296 := by omega
  have k0 : 0 ≤ K := by omega
  have k1 : K < 4294967296 := by omega
  have b0 : 0 ≤ B := by omega
  have b1 : B ≤ 32 := by omega
  obtain ⟨C, hC⟩ : ∃ C, less % (B + 1) = C := ⟨_, rfl⟩
  have c0 : 0 ≤ C := by rw [← hC]; exact Int.emod_nonneg _ (by omega)
  have c1 : C ≤ B := by have := Int.emod_lt_of_pos less (show 0 < B + 1 by omega); omega
  have hcut := Adr.cut_int N B n0 n1 b0 b1
  have hcut2 := Adr.cut_int N C n0 n1 c0 (by omega)
  have hin := Adr.in_self N.toNat B.toNat (by omega) (by omega)
  have hk := Adr.in_cut N.toNat B.toNat K.toNat (by omega) (by omega) (by omega)
  have hs := Adr.in_shorter N.toNat B.toNat C.toNat K.toNat (by omega) (by omega) (by omega) (by omega)
  have ha := Adr.in_all K.toNat (by omega)
  have hsh := Adr.shift_eq N K B n0 k0 b0 b1
  rw [← hk] at hsh
  clear hk
  have eN : ((N.toNat : Nat) : Int) = N := by omega
  have eB : ((B.toNat : Nat) : Int) = B := by omega
  have eC : ((C.toNat : Nat) : Int) = C := by omega
  have eK : ((K.toNat : Nat) : Int) = K := by omega
  rw [eB, eN] at hin
  rw [eB, eC, eK] at hs
  rw [eK] at ha
  rw [eB, eK] at hsh
  clear eN eB eC eK
  generalize Adr.cutTo N.toNat B.toNat = p at *
  generalize Adr.cutTo N.toNat C.toNat = q at *
  have hsub : IntKind.i64.wrap (32 - B) = 32 - B := IntWalk.i64_in _ (by omega)
  have cA : ∀ d os, Calls Tryd.prog 11 #[] (grow (redrawn w d) os) fun e w'' => e = .returned (.bool true) ∧ ∃ p : Regrown, w'' = grow (redrawn w p.d) p.os := fun d os => Calls.regrown_of (awake_any _ (hE.below (below_regrown w d os)))
  cases hx : Adr.isIn p B K with
  | true =>
    have hq := hs hx
    rw [hx] at hsh
    clear hs
    have HA := Lib.hid cA
    have H1 := Lib.hid hin
    have H2 := Lib.hid hx
    have H3 := Lib.hid hq
    have H4 := Lib.hid ha
    clear cA hin hx hq ha
    go_enter Tryd.func3, Tryd.ntmps3
    go_wp2_with fail
    refine wp_region_quiet_below (by kernel_rfl) (by kernel_rfl) ?_
    repeat (go_big_quiet_step ((first | (go_at_call_of 10 (Value.int .i64 N); exact regrown_same (In_is _ _ _ true H1.out _)) | (go_at_call_of 10 (Value.int .i64 B); exact regrown_same (In_is _ _ _ true H2.out _)) | (go_at_call_of 10 (Value.int .i64 C); exact regrown_same (In_is _ _ _ true H3.out _)) | (go_at_call 10; exact regrown_same (In_is _ _ _ true H4.out _)) | (go_at_call 11; exact HA.out _ _))))
    refine wpQuiet_nil ?_
    intro _ hw'
    obtain ⟨⟨dq, osq⟩, hw''⟩ := hw'
    subst hw''
    go_wp2_with fail
    go_ret
    exact ⟨rfl, below_regrown w dq osq⟩
  | false =>
    rw [hx] at hsh
    clear hs
    have HA := Lib.hid cA
    have H1 := Lib.hid hin
    have H2 := Lib.hid hx
    have H4 := Lib.hid ha
    clear cA hin hx ha
    go_enter Tryd.func3, Tryd.ntmps3
    go_wp2_with fail
    refine wp_region_quiet_below (by kernel_rfl) (by kernel_rfl) ?_
    repeat (go_big_quiet_step ((first | (go_at_call_of 10 (Value.int .i64 N); exact regrown_same (In_is _ _ _ true H1.out _)) | (go_at_call_of 10 (Value.int .i64 B); exact regrown_same (In_is _ _ _ false H2.out _)) | (go_at_call 10; exact regrown_same (In_is _ _ _ true H4.out _)) | (go_at_call 11; exact HA.out _ _))))
    refine wpQuiet_nil ?_
    intro _ hw'
    obtain ⟨⟨dq, osq⟩, hw''⟩ := hw'
    subst hw''
    go_wp2_with fail
    go_ret
    exact ⟨rfl, below_regrown w dq osq⟩
end Go.Proofs.YtlojeeakjgalpaaDoor
