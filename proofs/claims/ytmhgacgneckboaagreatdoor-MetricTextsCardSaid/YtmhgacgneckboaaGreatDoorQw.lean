/- Walks: the library's scaling, with a wider bound. FormatFloat at each float that the fast path serves. A walk: the library's text of a float that is tiny, three digits behind the point. -/
import Derived.Test.YtmhgacgneckboaaGreatDoorQg
import Derived.Test.YtmhgacgneckboaaGreatDoorQk
import Derived.Test.YtmhgacgneckboaaGreatDoorQj
namespace Go.Proofs.YtmhgacgneckboaaGreatDoor
open Go Go.RowKit Fta

theorem round_anyW (u : Nat) (w : World) (h : u < 9223372036854775808) : Calls Tryz.prog 126 #[.int .u64 u] w fun e w' => e = .returned (.int .u64 (rndU u)) ∧ w = w' := by
  have h1 : bits BinOp.and IntKind.u64 ((u : Int) / 4) 1 = ((u / 4 % 2 : Nat) : Int) := by
    have := u64_and_nat (u / 4) 1 (by omega) (by omega)
    rw [nat_mask1] at this
    rw [← this]; rfl
  have h2 : IntKind.u64.wrap ((u : Int) + 1 + ((u / 4 % 2 : Nat) : Int)) = (u : Int) + 1 + ((u / 4 % 2 : Nat) : Int) := by
    rw [IntKind.wrap_u64]; omega
  have HR : Hid (((rndU u : Nat) : Int) = ((u : Int) + 1 + ((u / 4 % 2 : Nat) : Int)) / 4) := by show _ = _; unfold rndU; omega
  go_enter Tryz.func126, Tryz.ntmps126
  go_wp2
  go_ret
  exact ⟨ret_u64 (by have := HR.out; omega), rfl⟩
theorem lor_ltW (a b : Nat) (ha : a < 9223372036854775808) (hb : b < 9223372036854775808) : a ||| b < 9223372036854775808 := Nat.or_lt_two_pow (n := 63) ha hb
theorem div_anyW (u : Nat) (w : World) (h : u < 9223372036854775808) : Calls Tryz.prog 129 #[.int .u64 u, .int .u64 10] w fun e w' => e = .returned (.int .u64 (divU u)) ∧ ∃ n, w' = w.drewN n := by
  have hb : ∀ b : Bool, ∀ W : World, Calls Tryz.prog 142 #[.bool b] W fun e w' => e = .returned (.int .u64 (if b then 1 else 0)) ∧ w' = W := bool2u_any
  have HA : Hid (bits BinOp.and IntKind.u64 (u : Int) 1 = ((u % 2 : Nat) : Int)) := by
    show _ = _
    have := u64_and_nat u 1 (by omega) (by omega)
    rw [nat_mask1] at this
    rw [← this]; rfl
  have HO : Hid (bits BinOp.or IntKind.u64 ((u : Int) / 10) ((u % 2 : Nat) : Int) = ((u / 10 ||| u % 2 : Nat) : Int)) := or_nat (by omega) (by omega) (by omega) rfl
  have hl := lor_ltW (u / 10) (u % 2) (by omega) (by omega)
  have HP : Hid (bits BinOp.or IntKind.u64 ((u / 10 ||| u % 2 : Nat) : Int) (if (u : Int) % 10 = 0 then 0 else 1) = ((divU u : Nat) : Int)) := by
    show _ = _
    unfold divU
    by_cases h0 : u % 10 = 0
    · rw [if_pos (by omega), if_pos h0]; exact or_nat (by omega) (by decide) rfl rfl
    · rw [if_neg (by omega), if_neg h0]; exact or_nat (by omega) (by decide) rfl rfl
  go_enter Tryz.func129, Tryz.ntmps129
  go_wp2_with fail
  go_quiet ((go_at_call 142; exact Calls.quiet_of_same (hb _ _)))
  go_wp2
  all_goals
    go_ret
    exact ⟨ret_u64 (by
      have hp := HP.out
      rw [HA.out, HO.out]
      first | (rw [if_pos (by assumption)] at hp; exact hp) | (rw [if_neg (by assumption)] at hp; exact hp)), _, rfl⟩
set_option maxHeartbeats 1000000 in
set_option maxRecDepth 100000 in
theorem fixed4W (x h s n : Nat) (e q : Int) (w : World) (hE : EnvF w) (he : -1100 ≤ e) (he2 : e ≤ 1100) (hx : x < 18446744073709551616) (hm : x * 11258999068426240000 = h * 18446744073709551616) (hh : h < 18446744073709551616)
    (hlog : (e + 63) * 78913 / 262144 = q) (hq : (n : Int) - 1 - q = 4) (hn : n ≤ 18) (hs : -(e + 13 + 3) = (s : Int)) (hs64 : s < 64) (hu : cutU h s < 9223372036854775808) :
    Calls Tryz.prog 96 #[.int .u64 x, .int .i64 e, .int .i64 n, .int .i64 3, .int .u8 102] w fun e' w' => e' = .returned (.tuple #[.int .u64 ((rndU (divU (cutU h s)) : Nat) : Int), .int .i64 (-3)]) ∧ Below w.heap.size w w' := by
  have HL := Lib.hid (fun W => log10_any (e + 63) W (by omega) (by omega))
  rw [hlog] at HL
  have HL2 : Hid (∀ W, Calls Tryz.prog 121 #[.int .i64 4] W fun e w' => e = .returned (.int .i64 13) ∧ W = w') := fun W => log2_any 4 W (by decide)
  have HPs := Lib.hid (prescale4 w e (by omega) (by omega) hE)
  rw [hs] at HPs
  obtain ⟨wo, hwo⟩ : ∃ wo, w.alloc (.cells #[.int .u64 11258999068426240000, .int .u64 0, .int .i64 (s : Int)] 138) = wo := ⟨_, rfl⟩
  have hbo : Below w.heap.size w wo := by rw [← hwo]; exact (Below.refl _ _).alloc (Nat.le_refl _) _
  rw [hwo] at HPs
  have HUs := Lib.hid (uscale_any x 11258999068426240000 h s w.heap.size wo hx (by decide) hm hh hs64 (by rw [← hwo, World.cell?_alloc_at _ _ _ _ rfl]; rfl) (by rw [← hwo, World.cell?_alloc_at _ _ _ _ rfl]; rfl) (by rw [← hwo, World.cell?_alloc_at _ _ _ _ rfl]; rfl))
  have HEo := Lib.hid (hE.below hbo)
  have HBo := Lib.hid hbo
  have hp1 : 10 ^ n ≤ 10 ^ 18 := Nat.pow_le_pow_right (by decide) hn
  have hp0 : 1 ≤ 10 ^ n := Nat.one_le_pow _ _ (by decide)
  have HUm := Lib.hid (fun W => unmin_any (10 ^ n) W (by have : (10 : Nat) ^ 18 = 1000000000000000000 := rfl; omega) hp0)
  have HPC := Lib.hid (fun m => pow_cell (HEo.out.drewN m) n (by omega))
  have HDv := Lib.hid (fun W => div_anyW (cutU h s) W hu)
  have HRd := Lib.hid (fun W => round_anyW (cutU h s) W hu)
  have HRd2 := Lib.hid (fun W => round_anyW (divU (cutU h s)) W (lor_ltW _ _ (lor_ltW _ _ (by omega) (by omega)) (by split <;> omega)))
  have hnn : (n : Int) ≤ 18 := by omega
  have hn0 : (0 : Int) ≤ (n : Int) := by omega
  have hqb : -400 ≤ q ∧ q ≤ 400 := by omega
  obtain ⟨hq1, hq2⟩ := hqb
  generalize cutU h s = u at *
  generalize divU u = u2 at *
  obtain ⟨r, hr⟩ : ∃ r, rndU (u2) = r := ⟨_, rfl⟩
  rw [hr]
  rw [hr] at HRd2
  generalize 10 ^ n = t at *
  obtain ⟨d, hd⟩ : ∃ d, t * 4 - 2 = d := ⟨_, rfl⟩
  rw [hd] at HUm
  clear hE hx hm hh hlog hs hbo hwo hr hp1 hp0
  by_cases hlt : u < d
  · have hlt1 : ¬ ((d : Int) ≤ (u : Int)) := by omega
    have hlt2 : (u : Int) < (d : Int) := by omega
    have hlt3 : decide (d ≤ u) = false := decide_eq_false (by omega)
    clear hlt hd hu
    go_enter Tryz.func96, Tryz.ntmps96
    go_wp2_with fail
    refine (HL.out _).mono ?_
    rintro e1 w1 ⟨rfl, rfl⟩
    go_wp2_with fail
    refine (HL2.out _).mono ?_
    rintro e1 w1 ⟨rfl, rfl⟩
    go_wp2_with fail
    refine HPs.out.mono ?_
    rintro e1 w1 ⟨rfl, rfl⟩
    go_wp2_with fail
    refine HUs.out.mono ?_
    rintro e1 w2 ⟨rfl, m1, rfl⟩
    have hpc := HPC.out m1
    go_wp2_with fail
    refine (HUm.out _).mono ?_
    rintro e1 w2 ⟨rfl, rfl⟩
    go_wp2_with fail
    go_loopw [13, 11] (fun vu vp wr => FixR w1 m1 u u2 vu vp wr) (fun _ vp _ => (intOf vp).toNat)
    case atStart => exact .inl ⟨rfl, rfl, rfl⟩
    case round =>
      rcases hrel with ⟨rfl, rfl, rfl⟩ | ⟨rfl, rfl, m2, rfl⟩
      · go_wp2_with fail
        refine (HDv.out _).mono ?_
        rintro e1 w2 ⟨rfl, m2, rfl⟩
        go_wp2_with fail
        go_roundw
        case rel => first | exact .inr ⟨rfl, rfl, _, rfl⟩ | ((repeat apply Exists.intro); exact ⟨.inr ⟨rfl, rfl, _, rfl⟩, rfl⟩)
        case measure => simp [intOf]
      · go_wp2_with fail
        refine (HRd2.out _).mono ?_
        rintro e1 w3 ⟨rfl, rfl⟩
        go_wp2_with fail
        refine bodyPost_ret (results_tmp2 rfl _ _ _) rfl ?_
        exact ⟨rfl, below_drewN HBo.out _⟩
  · have hlt1 : (d : Int) ≤ (u : Int) := by omega
    have hlt3 : decide (d ≤ u) = true := decide_eq_true (by omega)
    clear hlt hd hu
    go_enter Tryz.func96, Tryz.ntmps96
    go_wp2_with fail
    refine (HL.out _).mono ?_
    rintro e1 w1 ⟨rfl, rfl⟩
    go_wp2_with fail
    refine (HL2.out _).mono ?_
    rintro e1 w1 ⟨rfl, rfl⟩
    go_wp2_with fail
    refine HPs.out.mono ?_
    rintro e1 w1 ⟨rfl, rfl⟩
    go_wp2_with fail
    refine HUs.out.mono ?_
    rintro e1 w2 ⟨rfl, m1, rfl⟩
    have hpc := HPC.out m1
    go_wp2_with fail
    refine (HUm.out _).mono ?_
    rintro e1 w2 ⟨rfl, rfl⟩
    go_wp2_with fail
    refine (HDv.out _).mono ?_
    rintro e1 w2 ⟨rfl, m3, rfl⟩
    go_wp2_with fail
    go_loopw [13, 11] (fun vu vp wr => FixR w1 m1 u u2 vu vp wr) (fun _ vp _ => (intOf vp).toNat)
    case atStart => exact .inr ⟨rfl, rfl, _, rfl⟩
    case round =>
      rcases hrel with ⟨rfl, rfl, rfl⟩ | ⟨rfl, rfl, m2, rfl⟩
      · go_wp2_with fail
        refine (HDv.out _).mono ?_
        rintro e1 w2 ⟨rfl, m2, rfl⟩
        go_wp2_with fail
        go_roundw
        case rel => first | exact .inr ⟨rfl, rfl, _, rfl⟩ | ((repeat apply Exists.intro); exact ⟨.inr ⟨rfl, rfl, _, rfl⟩, rfl⟩)
        case measure => simp [intOf]
      · go_wp2_with fail
        refine (HRd2.out _).mono ?_
        rintro e1 w3 ⟨rfl, rfl⟩
        go_wp2_with fail
        refine bodyPost_ret (results_tmp2 rfl _ _ _) rfl ?_
        exact ⟨rfl, below_drewN HBo.out _⟩
end Go.Proofs.YtmhgacgneckboaaGreatDoor

namespace Fta
theorem cut_b {h s c : Nat} (hc : h / 2 ^ s + 1 < c) : cutU h s < c := by
  unfold cutU
  split
  · omega
  · rw [lor_one]; omega
theorem rnd_lt {u : Nat} (h : u < 9223372036854775808) : rndU u < 18446744073709551616 := by unfold rndU; omega
theorem div_lt63 {u : Nat} (h : u < 9223372036854775808) : divU u < 9223372036854775808 := by
  unfold divU
  exact Nat.or_lt_two_pow (n := 63) (Nat.or_lt_two_pow (n := 63) (by omega) (by omega)) (by split <;> decide)
end Fta
namespace Go.Proofs.YtmhgacgneckboaaGreatDoor
open Go Go.RowKit Fta Go.Sort

theorem fast_up3 (E F n : Nat) (x q : Int) (neg : Bool) (w : World) (hE : EnvF w) (hF : F < 4503599627370496) (hx : (E : Int) + -1023 = x) (hx0 : 0 ≤ x) (hx1 : x ≤ 48) (hnd : 1 + (1 + x) * 78913 / 262144 + 3 = (n : Int)) (hq : x * 78913 / 262144 = q) (hp : (n : Int) - 1 - q = 3) (hn1 : 1 ≤ n) (hn2 : n ≤ 18)
    (hc : ∀ M, M < 9007199254740992 → cutU (2000 * M) (1074 - E) < 10 ^ n * 4 - 2 ∧ cutU (2000 * M) (1074 - E) < 4611686018427387904) :
    FtoaGood ((if neg then 9223372036854775808 else 0) + (E * 4503599627370496 + F)) (rndU (cutU (2000 * (4503599627370496 + F)) (1074 - E))) neg w ∧ rndU (cutU (2000 * (4503599627370496 + F)) (1074 - E)) < 18446744073709551616 := by
  obtain ⟨hc1, hc2⟩ := hc (4503599627370496 + F) (by omega)
  refine ⟨?_, rnd_lt (by omega)⟩
  intro w0 w1 v hb hD
  exact ftoa_up w0 w1 v neg E F n _ x (hE.below hb) hD hx hx0 hx1 hF hn1 hn2 hnd (rnd_lt (by omega)) (fun W hW =>
    fixed3 ((4503599627370496 + F) * 2048) (2000 * (4503599627370496 + F)) (1074 - E) n (x - 11 - 52) q W ((hE.below hb).below hW) (by omega) (by omega) (by omega) (by omega) (by omega)
      (by rw [show x - 11 - 52 + 63 = x by omega]; exact hq) hp hn2 (by omega) (by omega) hc2 hc1)

theorem fast_up4 (E F n : Nat) (x q : Int) (neg : Bool) (w : World) (hE : EnvF w) (hF : F < 4503599627370496) (hx : (E : Int) + -1023 = x) (hx0 : 0 ≤ x) (hx1 : x ≤ 46) (hnd : 1 + (1 + x) * 78913 / 262144 + 3 = (n : Int)) (hq : x * 78913 / 262144 = q) (hp : (n : Int) - 1 - q = 4) (hn1 : 1 ≤ n) (hn2 : n ≤ 18)
    (hc : ∀ M, M < 9007199254740992 → cutU (1250 * M) (1070 - E) < 9223372036854775808) :
    FtoaGood ((if neg then 9223372036854775808 else 0) + (E * 4503599627370496 + F)) (rndU (divU (cutU (1250 * (4503599627370496 + F)) (1070 - E)))) neg w ∧ rndU (divU (cutU (1250 * (4503599627370496 + F)) (1070 - E))) < 18446744073709551616 := by
  have hc1 := hc (4503599627370496 + F) (by omega)
  refine ⟨?_, rnd_lt (div_lt63 hc1)⟩
  intro w0 w1 v hb hD
  exact ftoa_up w0 w1 v neg E F n _ x (hE.below hb) hD hx hx0 (by omega) hF hn1 hn2 hnd (rnd_lt (div_lt63 hc1)) (fun W hW =>
    fixed4W ((4503599627370496 + F) * 2048) (1250 * (4503599627370496 + F)) (1070 - E) n (x - 11 - 52) q W ((hE.below hb).below hW) (by omega) (by omega) (by omega) (by omega) (by omega)
      (by rw [show x - 11 - 52 + 63 = x by omega]; exact hq) hp hn2 (by omega) (by omega) hc1)

theorem fast_low4 (E F n : Nat) (x q : Int) (neg : Bool) (w : World) (hE : EnvF w) (hF : F < 4503599627370496) (hx : (E : Int) + -1023 = x) (hx0 : x < 0) (hx1 : -13 ≤ x) (hnd : 4 - -x * 78913 / 262144 = (n : Int)) (hq : x * 78913 / 262144 = q) (hp : (n : Int) - 1 - q = 4) (hn1 : 1 ≤ n) (hn2 : n ≤ 18)
    (hc : ∀ M, M < 9007199254740992 → cutU (1250 * M) (1070 - E) < 9223372036854775808) :
    FtoaGood ((if neg then 9223372036854775808 else 0) + (E * 4503599627370496 + F)) (rndU (divU (cutU (1250 * (4503599627370496 + F)) (1070 - E)))) neg w ∧ rndU (divU (cutU (1250 * (4503599627370496 + F)) (1070 - E))) < 18446744073709551616 := by
  have hc1 := hc (4503599627370496 + F) (by omega)
  refine ⟨?_, rnd_lt (div_lt63 hc1)⟩
  intro w0 w1 v hb hD
  exact ftoa_low w0 w1 v neg E F n _ x (hE.below hb) hD hx hx0 hx1 hF hn1 hn2 hnd (rnd_lt (div_lt63 hc1)) (fun W hW =>
    fixed4W ((4503599627370496 + F) * 2048) (1250 * (4503599627370496 + F)) (1070 - E) n (x - 11 - 52) q W ((hE.below hb).below hW) (by omega) (by omega) (by omega) (by omega) (by omega)
      (by rw [show x - 11 - 52 + 63 = x by omega]; exact hq) hp hn2 (by omega) (by omega) hc1)

set_option maxHeartbeats 1000000 in
theorem fast_0 (E F : Nat) (w : World) (hE : EnvF w) (hF : F < 4503599627370496) (h1 : 1010 ≤ E) (h2 : E ≤ 1030) (neg : Bool) : ∃ d, FtoaGood ((if neg then 9223372036854775808 else 0) + (E * 4503599627370496 + F)) d neg w ∧ d < 18446744073709551616 := by
  have hc : E = 1010 ∨ E = 1011 ∨ E = 1012 ∨ E = 1013 ∨ E = 1014 ∨ E = 1015 ∨ E = 1016 ∨ E = 1017 ∨ E = 1018 ∨ E = 1019 ∨ E = 1020 ∨ E = 1021 ∨ E = 1022 ∨ E = 1023 ∨ E = 1024 ∨ E = 1025 ∨ E = 1026 ∨ E = 1027 ∨ E = 1028 ∨ E = 1029 ∨ E = 1030 := by omega
  rcases hc with rfl | rfl | rfl | rfl | rfl | rfl | rfl | rfl | rfl | rfl | rfl | rfl | rfl | rfl | rfl | rfl | rfl | rfl | rfl | rfl | rfl
  · exact ⟨_, fast_low4 1010 F 1 (-13) (-4) neg w hE hF (by decide) (by decide) (by decide) (by decide) (by decide) (by decide) (by decide) (by decide) (fun M hM => cut_b (s := 60) (by omega))⟩
  · exact ⟨_, fast_low4 1011 F 1 (-12) (-4) neg w hE hF (by decide) (by decide) (by decide) (by decide) (by decide) (by decide) (by decide) (by decide) (fun M hM => cut_b (s := 59) (by omega))⟩
  · exact ⟨_, fast_low4 1012 F 1 (-11) (-4) neg w hE hF (by decide) (by decide) (by decide) (by decide) (by decide) (by decide) (by decide) (by decide) (fun M hM => cut_b (s := 58) (by omega))⟩
  · exact ⟨_, fast_low4 1013 F 1 (-10) (-4) neg w hE hF (by decide) (by decide) (by decide) (by decide) (by decide) (by decide) (by decide) (by decide) (fun M hM => cut_b (s := 57) (by omega))⟩
  · exact ⟨_, fast_low4 1014 F 2 (-9) (-3) neg w hE hF (by decide) (by decide) (by decide) (by decide) (by decide) (by decide) (by decide) (by decide) (fun M hM => cut_b (s := 56) (by omega))⟩
  · exact ⟨_, fast_low4 1015 F 2 (-8) (-3) neg w hE hF (by decide) (by decide) (by decide) (by decide) (by decide) (by decide) (by decide) (by decide) (fun M hM => cut_b (s := 55) (by omega))⟩
  · exact ⟨_, fast_low4 1016 F 2 (-7) (-3) neg w hE hF (by decide) (by decide) (by decide) (by decide) (by decide) (by decide) (by decide) (by decide) (fun M hM => cut_b (s := 54) (by omega))⟩
  · exact ⟨_, fast_low4 1017 F 3 (-6) (-2) neg w hE hF (by decide) (by decide) (by decide) (by decide) (by decide) (by decide) (by decide) (by decide) (fun M hM => cut_b (s := 53) (by omega))⟩
  · exact ⟨_, fast_low4 1018 F 3 (-5) (-2) neg w hE hF (by decide) (by decide) (by decide) (by decide) (by decide) (by decide) (by decide) (by decide) (fun M hM => cut_b (s := 52) (by omega))⟩
  · exact ⟨_, fast_low4 1019 F 3 (-4) (-2) neg w hE hF (by decide) (by decide) (by decide) (by decide) (by decide) (by decide) (by decide) (by decide) (fun M hM => cut_b (s := 51) (by omega))⟩
  · exact ⟨_, fast_low4 1020 F 4 (-3) (-1) neg w hE hF (by decide) (by decide) (by decide) (by decide) (by decide) (by decide) (by decide) (by decide) (fun M hM => cut_b (s := 50) (by omega))⟩
  · exact ⟨_, fast_low4 1021 F 4 (-2) (-1) neg w hE hF (by decide) (by decide) (by decide) (by decide) (by decide) (by decide) (by decide) (by decide) (fun M hM => cut_b (s := 49) (by omega))⟩
  · exact ⟨_, fast_low4 1022 F 4 (-1) (-1) neg w hE hF (by decide) (by decide) (by decide) (by decide) (by decide) (by decide) (by decide) (by decide) (fun M hM => cut_b (s := 48) (by omega))⟩
  · exact ⟨_, fast_up3 1023 F 4 (0) (0) neg w hE hF (by decide) (by decide) (by decide) (by decide) (by decide) (by decide) (by decide) (by decide) (fun M hM => ⟨cut_b (s := 51) (by omega), cut_b (s := 51) (by omega)⟩)⟩
  · exact ⟨_, fast_up3 1024 F 4 (1) (0) neg w hE hF (by decide) (by decide) (by decide) (by decide) (by decide) (by decide) (by decide) (by decide) (fun M hM => ⟨cut_b (s := 50) (by omega), cut_b (s := 50) (by omega)⟩)⟩
  · exact ⟨_, fast_up3 1025 F 4 (2) (0) neg w hE hF (by decide) (by decide) (by decide) (by decide) (by decide) (by decide) (by decide) (by decide) (fun M hM => ⟨cut_b (s := 49) (by omega), cut_b (s := 49) (by omega)⟩)⟩
  · exact ⟨_, fast_up4 1026 F 5 (3) (0) neg w hE hF (by decide) (by decide) (by decide) (by decide) (by decide) (by decide) (by decide) (by decide) (fun M hM => cut_b (s := 44) (by omega))⟩
  · exact ⟨_, fast_up3 1027 F 5 (4) (1) neg w hE hF (by decide) (by decide) (by decide) (by decide) (by decide) (by decide) (by decide) (by decide) (fun M hM => ⟨cut_b (s := 47) (by omega), cut_b (s := 47) (by omega)⟩)⟩
  · exact ⟨_, fast_up3 1028 F 5 (5) (1) neg w hE hF (by decide) (by decide) (by decide) (by decide) (by decide) (by decide) (by decide) (by decide) (fun M hM => ⟨cut_b (s := 46) (by omega), cut_b (s := 46) (by omega)⟩)⟩
  · exact ⟨_, fast_up4 1029 F 6 (6) (1) neg w hE hF (by decide) (by decide) (by decide) (by decide) (by decide) (by decide) (by decide) (by decide) (fun M hM => cut_b (s := 41) (by omega))⟩
  · exact ⟨_, fast_up3 1030 F 6 (7) (2) neg w hE hF (by decide) (by decide) (by decide) (by decide) (by decide) (by decide) (by decide) (by decide) (fun M hM => ⟨cut_b (s := 44) (by omega), cut_b (s := 44) (by omega)⟩)⟩
set_option maxHeartbeats 1000000 in
theorem fast_1 (E F : Nat) (w : World) (hE : EnvF w) (hF : F < 4503599627370496) (h1 : 1031 ≤ E) (h2 : E ≤ 1051) (neg : Bool) : ∃ d, FtoaGood ((if neg then 9223372036854775808 else 0) + (E * 4503599627370496 + F)) d neg w ∧ d < 18446744073709551616 := by
  have hc : E = 1031 ∨ E = 1032 ∨ E = 1033 ∨ E = 1034 ∨ E = 1035 ∨ E = 1036 ∨ E = 1037 ∨ E = 1038 ∨ E = 1039 ∨ E = 1040 ∨ E = 1041 ∨ E = 1042 ∨ E = 1043 ∨ E = 1044 ∨ E = 1045 ∨ E = 1046 ∨ E = 1047 ∨ E = 1048 ∨ E = 1049 ∨ E = 1050 ∨ E = 1051 := by omega
  rcases hc with rfl | rfl | rfl | rfl | rfl | rfl | rfl | rfl | rfl | rfl | rfl | rfl | rfl | rfl | rfl | rfl | rfl | rfl | rfl | rfl | rfl
  · exact ⟨_, fast_up3 1031 F 6 (8) (2) neg w hE hF (by decide) (by decide) (by decide) (by decide) (by decide) (by decide) (by decide) (by decide) (fun M hM => ⟨cut_b (s := 43) (by omega), cut_b (s := 43) (by omega)⟩)⟩
  · exact ⟨_, fast_up4 1032 F 7 (9) (2) neg w hE hF (by decide) (by decide) (by decide) (by decide) (by decide) (by decide) (by decide) (by decide) (fun M hM => cut_b (s := 38) (by omega))⟩
  · exact ⟨_, fast_up3 1033 F 7 (10) (3) neg w hE hF (by decide) (by decide) (by decide) (by decide) (by decide) (by decide) (by decide) (by decide) (fun M hM => ⟨cut_b (s := 41) (by omega), cut_b (s := 41) (by omega)⟩)⟩
  · exact ⟨_, fast_up3 1034 F 7 (11) (3) neg w hE hF (by decide) (by decide) (by decide) (by decide) (by decide) (by decide) (by decide) (by decide) (fun M hM => ⟨cut_b (s := 40) (by omega), cut_b (s := 40) (by omega)⟩)⟩
  · exact ⟨_, fast_up3 1035 F 7 (12) (3) neg w hE hF (by decide) (by decide) (by decide) (by decide) (by decide) (by decide) (by decide) (by decide) (fun M hM => ⟨cut_b (s := 39) (by omega), cut_b (s := 39) (by omega)⟩)⟩
  · exact ⟨_, fast_up4 1036 F 8 (13) (3) neg w hE hF (by decide) (by decide) (by decide) (by decide) (by decide) (by decide) (by decide) (by decide) (fun M hM => cut_b (s := 34) (by omega))⟩
  · exact ⟨_, fast_up3 1037 F 8 (14) (4) neg w hE hF (by decide) (by decide) (by decide) (by decide) (by decide) (by decide) (by decide) (by decide) (fun M hM => ⟨cut_b (s := 37) (by omega), cut_b (s := 37) (by omega)⟩)⟩
  · exact ⟨_, fast_up3 1038 F 8 (15) (4) neg w hE hF (by decide) (by decide) (by decide) (by decide) (by decide) (by decide) (by decide) (by decide) (fun M hM => ⟨cut_b (s := 36) (by omega), cut_b (s := 36) (by omega)⟩)⟩
  · exact ⟨_, fast_up4 1039 F 9 (16) (4) neg w hE hF (by decide) (by decide) (by decide) (by decide) (by decide) (by decide) (by decide) (by decide) (fun M hM => cut_b (s := 31) (by omega))⟩
  · exact ⟨_, fast_up3 1040 F 9 (17) (5) neg w hE hF (by decide) (by decide) (by decide) (by decide) (by decide) (by decide) (by decide) (by decide) (fun M hM => ⟨cut_b (s := 34) (by omega), cut_b (s := 34) (by omega)⟩)⟩
  · exact ⟨_, fast_up3 1041 F 9 (18) (5) neg w hE hF (by decide) (by decide) (by decide) (by decide) (by decide) (by decide) (by decide) (by decide) (fun M hM => ⟨cut_b (s := 33) (by omega), cut_b (s := 33) (by omega)⟩)⟩
  · exact ⟨_, fast_up4 1042 F 10 (19) (5) neg w hE hF (by decide) (by decide) (by decide) (by decide) (by decide) (by decide) (by decide) (by decide) (fun M hM => cut_b (s := 28) (by omega))⟩
  · exact ⟨_, fast_up3 1043 F 10 (20) (6) neg w hE hF (by decide) (by decide) (by decide) (by decide) (by decide) (by decide) (by decide) (by decide) (fun M hM => ⟨cut_b (s := 31) (by omega), cut_b (s := 31) (by omega)⟩)⟩
  · exact ⟨_, fast_up3 1044 F 10 (21) (6) neg w hE hF (by decide) (by decide) (by decide) (by decide) (by decide) (by decide) (by decide) (by decide) (fun M hM => ⟨cut_b (s := 30) (by omega), cut_b (s := 30) (by omega)⟩)⟩
  · exact ⟨_, fast_up3 1045 F 10 (22) (6) neg w hE hF (by decide) (by decide) (by decide) (by decide) (by decide) (by decide) (by decide) (by decide) (fun M hM => ⟨cut_b (s := 29) (by omega), cut_b (s := 29) (by omega)⟩)⟩
  · exact ⟨_, fast_up4 1046 F 11 (23) (6) neg w hE hF (by decide) (by decide) (by decide) (by decide) (by decide) (by decide) (by decide) (by decide) (fun M hM => cut_b (s := 24) (by omega))⟩
  · exact ⟨_, fast_up3 1047 F 11 (24) (7) neg w hE hF (by decide) (by decide) (by decide) (by decide) (by decide) (by decide) (by decide) (by decide) (fun M hM => ⟨cut_b (s := 27) (by omega), cut_b (s := 27) (by omega)⟩)⟩
  · exact ⟨_, fast_up3 1048 F 11 (25) (7) neg w hE hF (by decide) (by decide) (by decide) (by decide) (by decide) (by decide) (by decide) (by decide) (fun M hM => ⟨cut_b (s := 26) (by omega), cut_b (s := 26) (by omega)⟩)⟩
  · exact ⟨_, fast_up4 1049 F 12 (26) (7) neg w hE hF (by decide) (by decide) (by decide) (by decide) (by decide) (by decide) (by decide) (by decide) (fun M hM => cut_b (s := 21) (by omega))⟩
  · exact ⟨_, fast_up3 1050 F 12 (27) (8) neg w hE hF (by decide) (by decide) (by decide) (by decide) (by decide) (by decide) (by decide) (by decide) (fun M hM => ⟨cut_b (s := 24) (by omega), cut_b (s := 24) (by omega)⟩)⟩
  · exact ⟨_, fast_up3 1051 F 12 (28) (8) neg w hE hF (by decide) (by decide) (by decide) (by decide) (by decide) (by decide) (by decide) (by decide) (fun M hM => ⟨cut_b (s := 23) (by omega), cut_b (s := 23) (by omega)⟩)⟩
set_option maxHeartbeats 1000000 in
theorem fast_2 (E F : Nat) (w : World) (hE : EnvF w) (hF : F < 4503599627370496) (h1 : 1052 ≤ E) (h2 : E ≤ 1071) (neg : Bool) : ∃ d, FtoaGood ((if neg then 9223372036854775808 else 0) + (E * 4503599627370496 + F)) d neg w ∧ d < 18446744073709551616 := by
  have hc : E = 1052 ∨ E = 1053 ∨ E = 1054 ∨ E = 1055 ∨ E = 1056 ∨ E = 1057 ∨ E = 1058 ∨ E = 1059 ∨ E = 1060 ∨ E = 1061 ∨ E = 1062 ∨ E = 1063 ∨ E = 1064 ∨ E = 1065 ∨ E = 1066 ∨ E = 1067 ∨ E = 1068 ∨ E = 1069 ∨ E = 1070 ∨ E = 1071 := by omega
  rcases hc with rfl | rfl | rfl | rfl | rfl | rfl | rfl | rfl | rfl | rfl | rfl | rfl | rfl | rfl | rfl | rfl | rfl | rfl | rfl | rfl
  · exact ⟨_, fast_up4 1052 F 13 (29) (8) neg w hE hF (by decide) (by decide) (by decide) (by decide) (by decide) (by decide) (by decide) (by decide) (fun M hM => cut_b (s := 18) (by omega))⟩
  · exact ⟨_, fast_up3 1053 F 13 (30) (9) neg w hE hF (by decide) (by decide) (by decide) (by decide) (by decide) (by decide) (by decide) (by decide) (fun M hM => ⟨cut_b (s := 21) (by omega), cut_b (s := 21) (by omega)⟩)⟩
  · exact ⟨_, fast_up3 1054 F 13 (31) (9) neg w hE hF (by decide) (by decide) (by decide) (by decide) (by decide) (by decide) (by decide) (by decide) (fun M hM => ⟨cut_b (s := 20) (by omega), cut_b (s := 20) (by omega)⟩)⟩
  · exact ⟨_, fast_up3 1055 F 13 (32) (9) neg w hE hF (by decide) (by decide) (by decide) (by decide) (by decide) (by decide) (by decide) (by decide) (fun M hM => ⟨cut_b (s := 19) (by omega), cut_b (s := 19) (by omega)⟩)⟩
  · exact ⟨_, fast_up4 1056 F 14 (33) (9) neg w hE hF (by decide) (by decide) (by decide) (by decide) (by decide) (by decide) (by decide) (by decide) (fun M hM => cut_b (s := 14) (by omega))⟩
  · exact ⟨_, fast_up3 1057 F 14 (34) (10) neg w hE hF (by decide) (by decide) (by decide) (by decide) (by decide) (by decide) (by decide) (by decide) (fun M hM => ⟨cut_b (s := 17) (by omega), cut_b (s := 17) (by omega)⟩)⟩
  · exact ⟨_, fast_up3 1058 F 14 (35) (10) neg w hE hF (by decide) (by decide) (by decide) (by decide) (by decide) (by decide) (by decide) (by decide) (fun M hM => ⟨cut_b (s := 16) (by omega), cut_b (s := 16) (by omega)⟩)⟩
  · exact ⟨_, fast_up4 1059 F 15 (36) (10) neg w hE hF (by decide) (by decide) (by decide) (by decide) (by decide) (by decide) (by decide) (by decide) (fun M hM => cut_b (s := 11) (by omega))⟩
  · exact ⟨_, fast_up3 1060 F 15 (37) (11) neg w hE hF (by decide) (by decide) (by decide) (by decide) (by decide) (by decide) (by decide) (by decide) (fun M hM => ⟨cut_b (s := 14) (by omega), cut_b (s := 14) (by omega)⟩)⟩
  · exact ⟨_, fast_up3 1061 F 15 (38) (11) neg w hE hF (by decide) (by decide) (by decide) (by decide) (by decide) (by decide) (by decide) (by decide) (fun M hM => ⟨cut_b (s := 13) (by omega), cut_b (s := 13) (by omega)⟩)⟩
  · exact ⟨_, fast_up4 1062 F 16 (39) (11) neg w hE hF (by decide) (by decide) (by decide) (by decide) (by decide) (by decide) (by decide) (by decide) (fun M hM => cut_b (s := 8) (by omega))⟩
  · exact ⟨_, fast_up3 1063 F 16 (40) (12) neg w hE hF (by decide) (by decide) (by decide) (by decide) (by decide) (by decide) (by decide) (by decide) (fun M hM => ⟨cut_b (s := 11) (by omega), cut_b (s := 11) (by omega)⟩)⟩
  · exact ⟨_, fast_up3 1064 F 16 (41) (12) neg w hE hF (by decide) (by decide) (by decide) (by decide) (by decide) (by decide) (by decide) (by decide) (fun M hM => ⟨cut_b (s := 10) (by omega), cut_b (s := 10) (by omega)⟩)⟩
  · exact ⟨_, fast_up3 1065 F 16 (42) (12) neg w hE hF (by decide) (by decide) (by decide) (by decide) (by decide) (by decide) (by decide) (by decide) (fun M hM => ⟨cut_b (s := 9) (by omega), cut_b (s := 9) (by omega)⟩)⟩
  · exact ⟨_, fast_up4 1066 F 17 (43) (12) neg w hE hF (by decide) (by decide) (by decide) (by decide) (by decide) (by decide) (by decide) (by decide) (fun M hM => cut_b (s := 4) (by omega))⟩
  · exact ⟨_, fast_up3 1067 F 17 (44) (13) neg w hE hF (by decide) (by decide) (by decide) (by decide) (by decide) (by decide) (by decide) (by decide) (fun M hM => ⟨cut_b (s := 7) (by omega), cut_b (s := 7) (by omega)⟩)⟩
  · exact ⟨_, fast_up3 1068 F 17 (45) (13) neg w hE hF (by decide) (by decide) (by decide) (by decide) (by decide) (by decide) (by decide) (by decide) (fun M hM => ⟨cut_b (s := 6) (by omega), cut_b (s := 6) (by omega)⟩)⟩
  · exact ⟨_, fast_up4 1069 F 18 (46) (13) neg w hE hF (by decide) (by decide) (by decide) (by decide) (by decide) (by decide) (by decide) (by decide) (fun M hM => cut_b (s := 1) (by omega))⟩
  · exact ⟨_, fast_up3 1070 F 18 (47) (14) neg w hE hF (by decide) (by decide) (by decide) (by decide) (by decide) (by decide) (by decide) (by decide) (fun M hM => ⟨cut_b (s := 4) (by omega), cut_b (s := 4) (by omega)⟩)⟩
  · exact ⟨_, fast_up3 1071 F 18 (48) (14) neg w hE hF (by decide) (by decide) (by decide) (by decide) (by decide) (by decide) (by decide) (by decide) (fun M hM => ⟨cut_b (s := 3) (by omega), cut_b (s := 3) (by omega)⟩)⟩
end Go.Proofs.YtmhgacgneckboaaGreatDoor

namespace Go.Proofs.YtmhgacgneckboaaGreatDoor
open Go Go.RowKit Fta Go.Sort

set_option maxHeartbeats 4000000 in
set_option maxRecDepth 100000 in
theorem ftoa_tiny (w0 w : World) (v : Value) (neg : Bool) (E F : Nat) (hE : EnvF w) (hD : Dst w0 w v [] 0 []) (h1 : 1 ≤ E) (h2 : E ≤ 1009) (hF : F < 4503599627370496) :
    Calls Tryz.prog 71 #[v, .float .f64 ((if neg then 9223372036854775808 else 0) + (E * 4503599627370496 + F)), .int .u8 102, .int .i64 3] w fun e w' => (∃ v', e = .returned v' ∧ w'.ownsRow w0.heap.size 5 1 v' (sgn neg ++ fix3 0).length (bc (sgn neg ++ fix3 0))) ∧ Below w0.heap.size w0 w' := by
  obtain ⟨b, hb⟩ : ∃ b, (if neg then 9223372036854775808 else 0) + (E * 4503599627370496 + F) = b := ⟨_, rfl⟩
  rw [hb]
  obtain ⟨hq, ⟨c, hc1, hc2, hc3⟩, hm⟩ := bits_parts neg E F b (by omega) hF hb
  have hfb := run_sbits b
  have hE0 : ((E : Int) == 0) = false := by rw [beq_eq_false_iff_ne]; omega
  have hE7 : ((E : Int) == 2047) = false := by rw [beq_eq_false_iff_ne]; omega
  obtain ⟨M, hM⟩ : ∃ M, 4503599627370496 + F = M := ⟨_, rfl⟩
  have hor : bits BinOp.or IntKind.u64 (F : Int) 4503599627370496 = (M : Int) := by
    have := u64_or_nat F 4503599627370496 (by omega) (by decide)
    have hj := nat_join 52 4503599627370496 F (by decide) hF
    rw [Nat.or_comm, hj, hM] at this
    exact this
  have hM0 : ((M : Int) == 0) = false := by rw [beq_eq_false_iff_ne]; omega
  obtain ⟨x, hx⟩ : ∃ x : Int, (E : Int) + -1023 = x := ⟨_, rfl⟩
  have hx2 : x ≤ -14 ∧ -1022 ≤ x := by omega
  obtain ⟨hx2, hx3⟩ := hx2
  have hx0 : x < 0 := by omega
  have HL := Lib.hid (fun W => log10_any (-x) W (by omega) (by omega))
  obtain ⟨q1, hq1⟩ : ∃ q1, -x * 78913 / 262144 = q1 := ⟨_, rfl⟩
  rw [hq1] at HL
  have hq4 : 4 ≤ q1 ∧ q1 ≤ 400 := by omega
  obtain ⟨hq4, hq5⟩ := hq4
  have HE := Lib.hid hE
  have HD := Lib.hid hD
  have hopt := hE.opt
  clear hE hD hb hM hF hq1
  cases neg with
  | false =>
    have hq : (b : Int) / 9223372036854775808 = 0 := hq
    go_enter Tryz.func71, Tryz.ntmps71
    go_wp2_with fail
    go_quiet (fail)
    have HB1 := Lib.hid (below_drews (w := w) nq)
    have HE1 := Lib.hid (HE.out.drewN nq)
    have hopt1 := HE1.out.opt
    generalize w.drewN nq = w1 at *
    go_wp2_with fail
    refine (HL.out _).mono ?_
    rintro e w2 ⟨rfl, rfl⟩
    obtain ⟨q, hqq⟩ : ∃ q, w1.heap.size = q := ⟨_, rfl⟩
    obtain ⟨wo, hwo⟩ : ∃ wo, w1.alloc (.cells #[.int .u8 0, .int .u8 0, .int .u8 0, .int .u8 0, .int .u8 0, .int .u8 0, .int .u8 0, .int .u8 0, .int .u8 0, .int .u8 0, .int .u8 0, .int .u8 0, .int .u8 0, .int .u8 0, .int .u8 0, .int .u8 0, .int .u8 0, .int .u8 0, .int .u8 0, .int .u8 0, .int .u8 0, .int .u8 0, .int .u8 0, .int .u8 0] 113) = wo := ⟨_, rfl⟩
    have hbo : Below w1.heap.size w1 wo := by rw [← hwo]; exact (Below.refl _ _).alloc (Nat.le_refl _) _
    have HBo := Lib.hid (below_step HB1.out hbo)
    have HWO := Lib.hid hwo
    have HQQ := Lib.hid hqq
    have HFin : Hid ([] ++ lowL [] 0 = sgn false ++ fix3 0) := by show _ = _; decide +kernel
    have HDD : Hid (Dst w0 wo v [] q []) := ⟨own_below HD.out.own HBo.out, below_step0 HD.out.bel HBo.out HD.out.own, fun i hi => by simp at hi, fun h => absurd rfl h, fun h => absurd rfl h⟩
    have HC := Lib.hid (efg_lowP w0 wo v [] [] q 24 false HDD.out (by simp) (by simp) (by omega) 0 0 (by decide) (by omega))
    clear hbo hwo hqq HB1 HE1 hopt1 HDD
    go_wp2_with fail
    rw [HWO.out, HQQ.out]
    refine HC.out.mono ?_
    rintro e w6 ⟨v6, rfl, hd6⟩
    have HR : Hid (w6.ownsRow w0.heap.size 5 1 v6 (sgn false ++ fix3 0).length (bc (sgn false ++ fix3 0))) := by
      show World.ownsRow _ _ _ _ _ _ _
      rw [← HFin.out]; exact hd6.own
    have HB6 := Lib.hid hd6.bel
    clear hd6 HC
    go_wp2_with fail
    go_ret
    exact ⟨⟨_, rfl, HR.out⟩, HB6.out⟩
  | true =>
    have hq : (b : Int) / 9223372036854775808 = 1 := hq
    go_enter Tryz.func71, Tryz.ntmps71
    go_wp2_with fail
    go_quiet (fail)
    have HB1 := Lib.hid (below_drews (w := w) nq)
    have HE1 := Lib.hid (HE.out.drewN nq)
    have hopt1 := HE1.out.opt
    generalize w.drewN nq = w1 at *
    go_wp2_with fail
    refine (HL.out _).mono ?_
    rintro e w2 ⟨rfl, rfl⟩
    obtain ⟨q, hqq⟩ : ∃ q, w1.heap.size = q := ⟨_, rfl⟩
    obtain ⟨wo, hwo⟩ : ∃ wo, w1.alloc (.cells #[.int .u8 0, .int .u8 0, .int .u8 0, .int .u8 0, .int .u8 0, .int .u8 0, .int .u8 0, .int .u8 0, .int .u8 0, .int .u8 0, .int .u8 0, .int .u8 0, .int .u8 0, .int .u8 0, .int .u8 0, .int .u8 0, .int .u8 0, .int .u8 0, .int .u8 0, .int .u8 0, .int .u8 0, .int .u8 0, .int .u8 0, .int .u8 0] 113) = wo := ⟨_, rfl⟩
    have hbo : Below w1.heap.size w1 wo := by rw [← hwo]; exact (Below.refl _ _).alloc (Nat.le_refl _) _
    have HBo := Lib.hid (below_step HB1.out hbo)
    have HWO := Lib.hid hwo
    have HQQ := Lib.hid hqq
    have HFin : Hid ([] ++ [45] ++ lowL [] 0 = sgn true ++ fix3 0) := by show _ = _; decide +kernel
    have HDD : Hid (Dst w0 wo v [] q []) := ⟨own_below HD.out.own HBo.out, below_step0 HD.out.bel HBo.out HD.out.own, fun i hi => by simp at hi, fun h => absurd rfl h, fun h => absurd rfl h⟩
    have HC := Lib.hid (efg_lowN w0 wo v [] [] q 24 false HDD.out (by simp) (by simp) (by omega) 0 0 (by decide) (by omega))
    clear hbo hwo hqq HB1 HE1 hopt1 HDD
    go_wp2_with fail
    rw [HWO.out, HQQ.out]
    refine HC.out.mono ?_
    rintro e w6 ⟨v6, rfl, hd6⟩
    have HR : Hid (w6.ownsRow w0.heap.size 5 1 v6 (sgn true ++ fix3 0).length (bc (sgn true ++ fix3 0))) := by
      show World.ownsRow _ _ _ _ _ _ _
      rw [← HFin.out]; exact hd6.own
    have HB6 := Lib.hid hd6.bel
    clear hd6 HC
    go_wp2_with fail
    go_ret
    exact ⟨⟨_, rfl, HR.out⟩, HB6.out⟩
set_option maxHeartbeats 4000000 in
set_option maxRecDepth 100000 in
theorem ftoa_sub (w0 w : World) (v : Value) (neg : Bool) (E F : Nat) (hE : EnvF w) (hD : Dst w0 w v [] 0 []) (h0 : E = 0) (hF0 : 1 ≤ F) (hF : F < 4503599627370496) :
    Calls Tryz.prog 71 #[v, .float .f64 ((if neg then 9223372036854775808 else 0) + (E * 4503599627370496 + F)), .int .u8 102, .int .i64 3] w fun e w' => (∃ v', e = .returned v' ∧ w'.ownsRow w0.heap.size 5 1 v' (sgn neg ++ fix3 0).length (bc (sgn neg ++ fix3 0))) ∧ Below w0.heap.size w0 w' := by
  obtain ⟨b, hb⟩ : ∃ b, (if neg then 9223372036854775808 else 0) + (E * 4503599627370496 + F) = b := ⟨_, rfl⟩
  rw [hb]
  obtain ⟨hq, ⟨c, hc1, hc2, hc3⟩, hm⟩ := bits_parts neg E F b (by omega) hF hb
  have hfb := run_sbits b
  subst h0
  have hM0 : ((F : Int) == 0) = false := by rw [beq_eq_false_iff_ne]; omega
  obtain ⟨x, hx⟩ : ∃ x : Int, (1 : Int) + -1023 = x := ⟨_, rfl⟩
  have hx2 : x = -1022 := by omega
  have HL : Hid (∀ W : World, Calls Tryz.prog 95 #[.int .i64 1022] W fun e w' => e = .returned (.int .i64 307) ∧ W = w') := fun W => log10_any 1022 W (by decide) (by decide)
  have HE := Lib.hid hE
  have HD := Lib.hid hD
  have hopt := hE.opt
  clear hE hD hb hF hx hx2
  cases neg with
  | false =>
    have hq : (b : Int) / 9223372036854775808 = 0 := hq
    go_enter Tryz.func71, Tryz.ntmps71
    go_wp2_with fail
    go_quiet (fail)
    have HB1 := Lib.hid (below_drews (w := w) nq)
    have HE1 := Lib.hid (HE.out.drewN nq)
    have hopt1 := HE1.out.opt
    generalize w.drewN nq = w1 at *
    go_wp2_with fail
    refine (HL.out _).mono ?_
    rintro e w2 ⟨rfl, rfl⟩
    obtain ⟨q, hqq⟩ : ∃ q, w1.heap.size = q := ⟨_, rfl⟩
    obtain ⟨wo, hwo⟩ : ∃ wo, w1.alloc (.cells #[.int .u8 0, .int .u8 0, .int .u8 0, .int .u8 0, .int .u8 0, .int .u8 0, .int .u8 0, .int .u8 0, .int .u8 0, .int .u8 0, .int .u8 0, .int .u8 0, .int .u8 0, .int .u8 0, .int .u8 0, .int .u8 0, .int .u8 0, .int .u8 0, .int .u8 0, .int .u8 0, .int .u8 0, .int .u8 0, .int .u8 0, .int .u8 0] 113) = wo := ⟨_, rfl⟩
    have hbo : Below w1.heap.size w1 wo := by rw [← hwo]; exact (Below.refl _ _).alloc (Nat.le_refl _) _
    have HBo := Lib.hid (below_step HB1.out hbo)
    have HWO := Lib.hid hwo
    have HQQ := Lib.hid hqq
    have HFin : Hid ([] ++ lowL [] 0 = sgn false ++ fix3 0) := by show _ = _; decide +kernel
    have HDD : Hid (Dst w0 wo v [] q []) := ⟨own_below HD.out.own HBo.out, below_step0 HD.out.bel HBo.out HD.out.own, fun i hi => by simp at hi, fun h => absurd rfl h, fun h => absurd rfl h⟩
    have HC := Lib.hid (efg_lowP w0 wo v [] [] q 24 false HDD.out (by simp) (by simp) (by omega) 0 0 (by decide) (by omega))
    clear hbo hwo hqq HB1 HE1 hopt1 HDD
    go_wp2_with fail
    rw [HWO.out, HQQ.out]
    refine HC.out.mono ?_
    rintro e w6 ⟨v6, rfl, hd6⟩
    have HR : Hid (w6.ownsRow w0.heap.size 5 1 v6 (sgn false ++ fix3 0).length (bc (sgn false ++ fix3 0))) := by
      show World.ownsRow _ _ _ _ _ _ _
      rw [← HFin.out]; exact hd6.own
    have HB6 := Lib.hid hd6.bel
    clear hd6 HC
    go_wp2_with fail
    go_ret
    exact ⟨⟨_, rfl, HR.out⟩, HB6.out⟩
  | true =>
    have hq : (b : Int) / 9223372036854775808 = 1 := hq
    go_enter Tryz.func71, Tryz.ntmps71
    go_wp2_with fail
    go_quiet (fail)
    have HB1 := Lib.hid (below_drews (w := w) nq)
    have HE1 := Lib.hid (HE.out.drewN nq)
    have hopt1 := HE1.out.opt
    generalize w.drewN nq = w1 at *
    go_wp2_with fail
    refine (HL.out _).mono ?_
    rintro e w2 ⟨rfl, rfl⟩
    obtain ⟨q, hqq⟩ : ∃ q, w1.heap.size = q := ⟨_, rfl⟩
    obtain ⟨wo, hwo⟩ : ∃ wo, w1.alloc (.cells #[.int .u8 0, .int .u8 0, .int .u8 0, .int .u8 0, .int .u8 0, .int .u8 0, .int .u8 0, .int .u8 0, .int .u8 0, .int .u8 0, .int .u8 0, .int .u8 0, .int .u8 0, .int .u8 0, .int .u8 0, .int .u8 0, .int .u8 0, .int .u8 0, .int .u8 0, .int .u8 0, .int .u8 0, .int .u8 0, .int .u8 0, .int .u8 0] 113) = wo := ⟨_, rfl⟩
    have hbo : Below w1.heap.size w1 wo := by rw [← hwo]; exact (Below.refl _ _).alloc (Nat.le_refl _) _
    have HBo := Lib.hid (below_step HB1.out hbo)
    have HWO := Lib.hid hwo
    have HQQ := Lib.hid hqq
    have HFin : Hid ([] ++ [45] ++ lowL [] 0 = sgn true ++ fix3 0) := by show _ = _; decide +kernel
    have HDD : Hid (Dst w0 wo v [] q []) := ⟨own_below HD.out.own HBo.out, below_step0 HD.out.bel HBo.out HD.out.own, fun i hi => by simp at hi, fun h => absurd rfl h, fun h => absurd rfl h⟩
    have HC := Lib.hid (efg_lowN w0 wo v [] [] q 24 false HDD.out (by simp) (by simp) (by omega) 0 0 (by decide) (by omega))
    clear hbo hwo hqq HB1 HE1 hopt1 HDD
    go_wp2_with fail
    rw [HWO.out, HQQ.out]
    refine HC.out.mono ?_
    rintro e w6 ⟨v6, rfl, hd6⟩
    have HR : Hid (w6.ownsRow w0.heap.size 5 1 v6 (sgn true ++ fix3 0).length (bc (sgn true ++ fix3 0))) := by
      show World.ownsRow _ _ _ _ _ _ _
      rw [← HFin.out]; exact hd6.own
    have HB6 := Lib.hid hd6.bel
    clear hd6 HC
    go_wp2_with fail
    go_ret
    exact ⟨⟨_, rfl, HR.out⟩, HB6.out⟩
end Go.Proofs.YtmhgacgneckboaaGreatDoor
