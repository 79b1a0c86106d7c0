/- Walks: the library's unrounded numbers. Walks: the library's scaling of a float to a fixed number of digits behind the point. -/
import Derived.Laws.Bits64
import Derived.Laws.BitsAllLaws
import Derived.Deep.QuietTactic
import Derived.BigQuiet
import Derived.Test.YtmhgacgneckboaaGreatDoorQd
namespace Fta
open Go
def rndU (u : Nat) : Nat := (u + 1 + u / 4 % 2) / 4
def divU (u : Nat) : Nat := (u / 10 ||| u % 2) ||| (if u % 10 = 0 then 0 else 1)
/-- A number of units, its last bit set where anything is cut off. -/
def cutU (h s : Nat) : Nat := if h % 2 ^ s = 0 then h / 2 ^ s else h / 2 ^ s ||| 1
end Fta
namespace Go.Proofs.YtmhgacgneckboaaGreatDoor
open Go Go.RowKit Fta

theorem ret_u64 {a b : Int} (h : a = b) : Ending.returned (.int .u64 a) = .returned (.int .u64 b) := by rw [h]
theorem round_any (u : Nat) (w : World) (h : u < 4611686018427387904) : Calls Tryz.prog 126 #[.int .u64 u] w fun e w' => e = .returned (.int .u64 (rndU u)) ∧ w = w' := by
  have h1 : bits BinOp.and IntKind.u64 ((u : Int) / 4) 1 = ((u / 4 % 2 : Nat) : Int) := by
    have := u64_and_nat (u / 4) 1 (by omega) (by omega)
    rw [nat_mask1] at this
    rw [← this]; rfl
  have h2 : IntKind.u64.wrap ((u : Int) + 1 + ((u / 4 % 2 : Nat) : Int)) = (u : Int) + 1 + ((u / 4 % 2 : Nat) : Int) := by
    rw [IntKind.wrap_u64]; omega
  have HR : Hid (((rndU u : Nat) : Int) = ((u : Int) + 1 + ((u / 4 % 2 : Nat) : Int)) / 4) := by show _ = _; unfold rndU; omega
  go_enter Tryz.func126, Tryz.ntmps126
  go_wp2
  go_ret
  exact ⟨ret_u64 (by have := HR.out; omega), rfl⟩
theorem unmin_any (x : Nat) (w : World) (h : x < 2000000000000000000) (h1 : 1 ≤ x) : Calls Tryz.prog 128 #[.int .u64 x] w fun e w' => e = .returned (.int .u64 ((x * 4 - 2 : Nat) : Int)) ∧ w = w' := by
  have h2 : IntKind.u64.wrap ((x : Int) * 4 - 2) = (x : Int) * 4 - 2 := by rw [IntKind.wrap_u64]; omega
  go_enter Tryz.func128, Tryz.ntmps128
  go_wp2
  go_ret
  exact ⟨ret_u64 (by omega), rfl⟩
theorem log2_any (x : Nat) (w : World) (h : x < 400) : Calls Tryz.prog 121 #[.int .i64 x] w fun e w' => e = .returned (.int .i64 ((x * 108853 / 32768 : Nat) : Int)) ∧ w = w' := by
  go_enter Tryz.func121, Tryz.ntmps121
  go_wp2
  go_ret
  exact ⟨ret_int (by omega), rfl⟩
theorem log10_any (x : Int) (w : World) (h : -2000 ≤ x) (h1 : x ≤ 2000) : Calls Tryz.prog 95 #[.int .i64 x] w fun e w' => e = .returned (.int .i64 (x * 78913 / 262144)) ∧ w = w' := by
  go_enter Tryz.func95, Tryz.ntmps95
  go_wp2
  go_ret
  exact ⟨rfl, rfl⟩
theorem bool2u_any (b : Bool) (w : World) : Calls Tryz.prog 142 #[.bool b] w fun e w' => e = .returned (.int .u64 (if b then 1 else 0)) ∧ w' = w := by
  cases b
  all_goals
    go_enter Tryz.func142, Tryz.ntmps142
    go_wp2
    go_ret
    exact ⟨rfl, rfl⟩
theorem bool2w_any (b : Bool) (w : World) : Calls Tryz.prog 141 #[.bool b] w fun e w' => e = .returned (.int .u64 (if b then 1 else 0)) ∧ w' = w := by
  cases b
  all_goals
    go_enter Tryz.func141, Tryz.ntmps141
    go_wp2
    go_ret
    exact ⟨rfl, rfl⟩
theorem or_nat {a b : Nat} (ha : a < 18446744073709551616) (hb : b < 18446744073709551616) {x y : Int} (hx : x = a) (hy : y = b) : bits .or .u64 x y = ((a ||| b : Nat) : Int) := by
  rw [hx, hy]; exact u64_or_nat a b ha hb
theorem lor_lt (a b : Nat) (ha : a < 4611686018427387904) (hb : b < 4611686018427387904) : a ||| b < 4611686018427387904 := Nat.or_lt_two_pow (n := 62) ha hb
theorem div_any (u : Nat) (w : World) (h : u < 4611686018427387904) : Calls Tryz.prog 129 #[.int .u64 u, .int .u64 10] w fun e w' => e = .returned (.int .u64 (divU u)) ∧ ∃ n, w' = w.drewN n := by
  have hb : ∀ b : Bool, ∀ W : World, Calls Tryz.prog 142 #[.bool b] W fun e w' => e = .returned (.int .u64 (if b then 1 else 0)) ∧ w' = W := bool2u_any
  have HA : Hid (bits BinOp.and IntKind.u64 (u : Int) 1 = ((u % 2 : Nat) : Int)) := by
    show _ = _
    have := u64_and_nat u 1 (by omega) (by omega)
    rw [nat_mask1] at this
    rw [← this]; rfl
  have HO : Hid (bits BinOp.or IntKind.u64 ((u : Int) / 10) ((u % 2 : Nat) : Int) = ((u / 10 ||| u % 2 : Nat) : Int)) := or_nat (by omega) (by omega) (by omega) rfl
  have hl := lor_lt (u / 10) (u % 2) (by omega) (by omega)
  have HP : Hid (bits BinOp.or IntKind.u64 ((u / 10 ||| u % 2 : Nat) : Int) (if (u : Int) % 10 = 0 then 0 else 1) = ((divU u : Nat) : Int)) := by
    show _ = _
    unfold divU
    by_cases h0 : u % 10 = 0
    · rw [if_pos (by omega), if_pos h0]; exact or_nat (by omega) (by decide) rfl rfl
    · rw [if_neg (by omega), if_neg h0]; exact or_nat (by omega) (by decide) rfl rfl
  go_enter Tryz.func129, Tryz.ntmps129
  go_wp2_with fail
  go_quiet ((go_at_call 142; exact Calls.quiet_of_same (hb _ _)))
  go_wp2
  all_goals
    go_ret
    exact ⟨ret_u64 (by
      have hp := HP.out
      rw [HA.out, HO.out]
      first | (rw [if_pos (by assumption)] at hp; exact hp) | (rw [if_neg (by assumption)] at hp; exact hp)), _, rfl⟩
theorem uscale_any (x PH h s b : Nat) (w : World) (hx : x < 18446744073709551616) (hPH : PH < 18446744073709551616) (hm : x * PH = h * 18446744073709551616) (hh : h < 18446744073709551616) (hs : s < 64) (c0 : w.cell? ⟨b, 0, none⟩ = some (.int .u64 PH)) (c1 : w.cell? ⟨b, 1, none⟩ = some (.int .u64 0)) (c2 : w.cell? ⟨b, 2, none⟩ = some (.int .i64 s)) :
    Calls Tryz.prog 122 #[.int .u64 x, .pointer (some ⟨b, 0, none⟩)] w fun e w' => e = .returned (.int .u64 (cutU h s)) ∧ ∃ n, w' = w.drewN n := by
  have hMul : Hid (∀ W : World, Calls Tryz.prog 80 #[.int .u64 x, .int .u64 PH] W fun e w' => e = .returned (.tuple #[.int .u64 h, .int .u64 0]) ∧ w' = W) := fun W => by
    have := Tryz.bits_Mul64 x PH hx hPH W
    rw [hm, Nat.mul_div_cancel _ (by decide), Nat.mul_mod_left] at this
    exact this
  have hMul2 : Hid (∀ W : World, Calls Tryz.prog 80 #[.int .u64 x, .int .u64 0] W fun e w' => e = .returned (.tuple #[.int .u64 0, .int .u64 0]) ∧ w' = W) := fun W => by
    have := Tryz.bits_Mul64 x 0 hx (by decide) W
    rw [Nat.mul_zero, Nat.zero_div, Nat.zero_mod] at this
    exact this
  have hb : ∀ b : Bool, ∀ W : World, Calls Tryz.prog 141 #[.bool b] W fun e w' => e = .returned (.int .u64 (if b then 1 else 0)) ∧ w' = W := bool2w_any
  have hs63 : bits BinOp.and IntKind.i64 (s : Int) 63 = (s : Int) := by
    have := Adr.and_nat s 63 (by omega) (by decide)
    rw [show s &&& 63 = s % 64 from Nat.and_two_pow_sub_one_eq_mod s 6, Nat.mod_eq_of_lt hs] at this
    exact this
  have hs0 : (0 : Int) ≤ (s : Int) := by omega
  have hs64 : (s : Int) ≤ 64 := by omega
  have hp : 0 < 2 ^ s := Nat.two_pow_pos s
  have hdm := Nat.div_add_mod h (2 ^ s)
  have hcomm : 2 ^ s * (h / 2 ^ s) = h / 2 ^ s * 2 ^ s := Nat.mul_comm _ _
  obtain ⟨v, hv⟩ : ∃ v, h / 2 ^ s = v := ⟨_, rfl⟩
  obtain ⟨q, hq⟩ : ∃ q, v * 2 ^ s = q := ⟨_, rfl⟩
  rw [hv] at hdm hcomm
  rw [hq] at hcomm
  have hvle : v ≤ h := by rw [← hv]; exact Nat.div_le_self _ _
  have HD : Hid (h / 2 ^ s = v) := hv
  have HV : Hid (((h : Int) / 2 ^ s) = (v : Int)) := by show _ = _; rw [← hv]; simp
  have HQ : Hid (IntKind.u64.wrap ((v : Int) * 2 ^ s) = (q : Int)) := by
    show _ = _
    have e : ((v : Int) * 2 ^ s) = ((q : Nat) : Int) := by rw [← hq]; simp
    rw [e, IntKind.wrap_u64]; omega
  have hr : (h % 2 ^ s = 0) ↔ q = h := by omega
  clear hx hPH hm hdm hcomm hp hv hq
  by_cases hc : h % 2 ^ s = 0
  · have hqh := hr.1 hc
    subst hqh
    have HK : Hid (cutU q s = v) := by show _ = _; unfold cutU; rw [if_pos hc, HD.out]
    have HO : Hid (bits BinOp.or IntKind.u64 (v : Int) 0 = (v : Int)) := by
      have := or_nat (a := v) (b := 0) (by omega) (by decide) rfl rfl
      rw [Nat.or_zero] at this
      exact this
    have hv2 := HV.out
    have hq2 := HQ.out
    clear hc hr
    go_enter Tryz.func122, Tryz.ntmps122
    go_wp2_with fail
    refine (hMul.out w).mono ?_
    rintro e w' ⟨rfl, rfl⟩
    go_wp2_with fail
    refine (hMul2.out _).mono ?_
    rintro e w' ⟨rfl, rfl⟩
    go_wp2_with (go_at_call 141; refine (hb _ _).mono ?_; rintro e w' ⟨rfl, rfl⟩)
    go_quiet ((go_at_call 141; exact Calls.quiet_of_same (hb _ _)))
    go_wp2
    go_ret
    exact ⟨ret_u64 (by rw [HK.out, HO.out]), _, rfl⟩
  · have hqh : ¬ q = h := fun e => hc (hr.2 e)
    have HK : Hid (cutU h s = v ||| 1) := by show _ = _; unfold cutU; rw [if_neg hc, HD.out]
    have HO : Hid (bits BinOp.or IntKind.u64 (v : Int) 1 = ((v ||| 1 : Nat) : Int)) := or_nat (by omega) (by decide) rfl rfl
    have hv2 := HV.out
    have hq2 := HQ.out
    have hqi : ¬ (q : Int) = (h : Int) := by omega
    clear hc hr hqh
    go_enter Tryz.func122, Tryz.ntmps122
    go_wp2_with fail
    refine (hMul.out w).mono ?_
    rintro e w' ⟨rfl, rfl⟩
    go_wp2_with fail
    go_ret
    exact ⟨ret_u64 (by rw [HK.out, HO.out]), 0, rfl⟩
end Go.Proofs.YtmhgacgneckboaaGreatDoor

namespace Fta
open Go
def PH3 : Nat := 18014398509481984000
def PH4 : Nat := 11258999068426240000
end Fta
namespace Go.Proofs.YtmhgacgneckboaaGreatDoor
open Go Go.RowKit Fta

/-- What the walks of layer 11 are told beside Env: the library's switch, and two rows of its table of powers of ten. -/
structure EnvF (w : World) : Prop where
  env : Env w
  opt : w.cell? ⟨1, 0, none⟩ = some (.bool true)
  h3 : w.cell? ⟨8, 702, none⟩ = some (.int .u64 18014398509481984000)
  l3 : w.cell? ⟨8, 703, none⟩ = some (.int .u64 0)
  h4 : w.cell? ⟨8, 704, none⟩ = some (.int .u64 11258999068426240000)
  l4 : w.cell? ⟨8, 705, none⟩ = some (.int .u64 0)
theorem EnvF.below {w w' : World} (h : EnvF w) (hb : Below w.heap.size w w') : EnvF w' :=
  ⟨h.env.below hb, (hb.cell (Lib.lt_of_cell h.opt)).trans h.opt, (hb.cell (Lib.lt_of_cell h.h3)).trans h.h3, (hb.cell (Lib.lt_of_cell h.l3)).trans h.l3, (hb.cell (Lib.lt_of_cell h.h4)).trans h.h4, (hb.cell (Lib.lt_of_cell h.l4)).trans h.l4⟩
theorem EnvF.drewN {w : World} (h : EnvF w) (n : Nat) : EnvF (w.drewN n) := h.below (below_drews n)

set_option maxRecDepth 100000 in
theorem prescale3 (w0 : World) (e : Int) (he : -2000 ≤ e) (he2 : e ≤ 2000) (hE : EnvF w0) :
    Calls Tryz.prog 120 #[.pointer (some ⟨w0.heap.size, 0, none⟩), .int .i64 e, .int .i64 3, .int .i64 9] (w0.alloc (.cells #[.int .u64 0, .int .u64 0, .int .i64 0] 138)) fun e' w' => e' = .returned (.tuple #[]) ∧ w' = w0.alloc (.cells #[.int .u64 18014398509481984000, .int .u64 0, .int .i64 (-(e + 9 + 3))] 138) := by
  obtain ⟨-, -, h3, l3, -, -⟩ := hE
  have b3 := Lib.lt_of_cell h3
  have h3' := (World.cell?_alloc_lt w0 (.cells #[.int .u64 0, .int .u64 0, .int .i64 0] 138) ⟨8, 702, none⟩ b3).trans h3
  go_enter Tryz.func120, Tryz.ntmps120
  go_wp2
  go_end0
  exact ⟨rfl, rfl⟩
set_option maxRecDepth 100000 in
theorem prescale4 (w0 : World) (e : Int) (he : -2000 ≤ e) (he2 : e ≤ 2000) (hE : EnvF w0) :
    Calls Tryz.prog 120 #[.pointer (some ⟨w0.heap.size, 0, none⟩), .int .i64 e, .int .i64 4, .int .i64 13] (w0.alloc (.cells #[.int .u64 0, .int .u64 0, .int .i64 0] 138)) fun e' w' => e' = .returned (.tuple #[]) ∧ w' = w0.alloc (.cells #[.int .u64 11258999068426240000, .int .u64 0, .int .i64 (-(e + 13 + 3))] 138) := by
  obtain ⟨-, -, -, -, h3, l3⟩ := hE
  have b3 := Lib.lt_of_cell h3
  have h3' := (World.cell?_alloc_lt w0 (.cells #[.int .u64 0, .int .u64 0, .int .i64 0] 138) ⟨8, 704, none⟩ b3).trans h3
  go_enter Tryz.func120, Tryz.ntmps120
  go_wp2
  go_end0
  exact ⟨rfl, rfl⟩

theorem pow_cell {w : World} (h : EnvF w) (n : Nat) (hn : n ≤ 19) : w.cell? ⟨5, n, none⟩ = some (.int .u64 ((10 ^ n : Nat) : Int)) := by
  have := h.env.tb.cell gPow n (by
    show n < 20
    omega)
  rw [Lib.pow10Tab_at n (by omega)] at this
  exact this
/-- A round of the scaling's loop. -/
def FixR (w1 : World) (m1 u u2 : Nat) (vu vp : Value) (wr : World) : Prop := (vu = .int .u64 u ∧ vp = .int .i64 4 ∧ wr = w1.drewN m1) ∨ (vu = .int .u64 u2 ∧ vp = .int .i64 3 ∧ ∃ m, wr = w1.drewN m)

set_option maxHeartbeats 1000000 in
set_option maxRecDepth 100000 in
theorem fixed3 (x h s n : Nat) (e q : Int) (w : World) (hE : EnvF w) (he : -1100 ≤ e) (he2 : e ≤ 1100) (hx : x < 18446744073709551616) (hm : x * 18014398509481984000 = h * 18446744073709551616) (hh : h < 18446744073709551616)
    (hlog : (e + 63) * 78913 / 262144 = q) (hq : (n : Int) - 1 - q = 3) (hn : n ≤ 18) (hs : -(e + 9 + 3) = (s : Int)) (hs64 : s < 64) (hu : cutU h s < 4611686018427387904) (hlt : cutU h s < 10 ^ n * 4 - 2) :
    Calls Tryz.prog 96 #[.int .u64 x, .int .i64 e, .int .i64 n, .int .i64 3, .int .u8 102] w fun e' w' => e' = .returned (.tuple #[.int .u64 ((rndU (cutU h s) : Nat) : Int), .int .i64 (-3)]) ∧ Below w.heap.size w w' := by
  have HL := Lib.hid (fun W => log10_any (e + 63) W (by omega) (by omega))
  rw [hlog] at HL
  have HL2 : Hid (∀ W, Calls Tryz.prog 121 #[.int .i64 3] W fun e w' => e = .returned (.int .i64 9) ∧ W = w') := fun W => log2_any 3 W (by decide)
  have HPs := Lib.hid (prescale3 w e (by omega) (by omega) hE)
  rw [hs] at HPs
  obtain ⟨wo, hwo⟩ : ∃ wo, w.alloc (.cells #[.int .u64 18014398509481984000, .int .u64 0, .int .i64 (s : Int)] 138) = wo := ⟨_, rfl⟩
  have hbo : Below w.heap.size w wo := by rw [← hwo]; exact (Below.refl _ _).alloc (Nat.le_refl _) _
  rw [hwo] at HPs
  have HUs := Lib.hid (uscale_any x 18014398509481984000 h s w.heap.size wo hx (by decide) hm hh hs64 (by rw [← hwo, World.cell?_alloc_at _ _ _ _ rfl]; rfl) (by rw [← hwo, World.cell?_alloc_at _ _ _ _ rfl]; rfl) (by rw [← hwo, World.cell?_alloc_at _ _ _ _ rfl]; rfl))
  have HEo := Lib.hid (hE.below hbo)
  have HBo := Lib.hid hbo
  have hp1 : 10 ^ n ≤ 10 ^ 18 := Nat.pow_le_pow_right (by decide) hn
  have hp0 : 1 ≤ 10 ^ n := Nat.one_le_pow _ _ (by decide)
  have HUm := Lib.hid (fun W => unmin_any (10 ^ n) W (by have : (10 : Nat) ^ 18 = 1000000000000000000 := rfl; omega) hp0)
  have HPC := Lib.hid (fun m => pow_cell (HEo.out.drewN m) n (by omega))
  have HDv := Lib.hid (fun W => div_any (cutU h s) W hu)
  have HRd := Lib.hid (fun W => round_any (cutU h s) W hu)
  have HRd2 := Lib.hid (fun W => round_any (divU (cutU h s)) W (lor_lt _ _ (lor_lt _ _ (by omega) (by omega)) (by split <;> omega)))
  have hnn : (n : Int) ≤ 18 := by omega
  have hn0 : (0 : Int) ≤ (n : Int) := by omega
  have hqb : -400 ≤ q ∧ q ≤ 400 := by omega
  obtain ⟨hq1, hq2⟩ := hqb
  generalize cutU h s = u at *
  generalize divU u = u2 at *
  obtain ⟨r, hr⟩ : ∃ r, rndU (u) = r := ⟨_, rfl⟩
  rw [hr]
  rw [hr] at HRd
  generalize 10 ^ n = t at *
  obtain ⟨d, hd⟩ : ∃ d, t * 4 - 2 = d := ⟨_, rfl⟩
  rw [hd] at HUm
  clear hE hx hm hh hlog hs hbo hwo hr hp1 hp0
  rw [hd] at hlt
  have hlt1 : ¬ ((d : Int) ≤ (u : Int)) := by omega
  have hlt2 : (u : Int) < (d : Int) := by omega
  clear hlt hd hu
  go_enter Tryz.func96, Tryz.ntmps96
  go_wp2_with fail
  refine (HL.out _).mono ?_
  rintro e1 w1 ⟨rfl, rfl⟩
  go_wp2_with fail
  refine (HL2.out _).mono ?_
  rintro e1 w1 ⟨rfl, rfl⟩
  go_wp2_with fail
  refine HPs.out.mono ?_
  rintro e1 w1 ⟨rfl, rfl⟩
  go_wp2_with fail
  refine HUs.out.mono ?_
  rintro e1 w2 ⟨rfl, m1, rfl⟩
  have hpc := HPC.out m1
  go_wp2_with fail
  refine (HUm.out _).mono ?_
  rintro e1 w2 ⟨rfl, rfl⟩
  go_wp2_with fail

  go_loopw [13, 11] (fun vu vp wr => vu = .int .u64 u ∧ vp = .int .i64 3 ∧ wr = w1.drewN m1) (fun _ _ _ => 0)
  case atStart => exact ⟨rfl, rfl, rfl⟩
  case round =>
    obtain ⟨rfl, rfl, rfl⟩ := hrel
    go_wp2_with fail
    refine (HRd.out _).mono ?_
    rintro e1 w3 ⟨rfl, rfl⟩
    go_wp2_with fail
    refine bodyPost_ret (results_tmp2 rfl _ _ _) rfl ?_
    exact ⟨rfl, below_drewN HBo.out _⟩

set_option maxHeartbeats 1000000 in
set_option maxRecDepth 100000 in
theorem fixed4 (x h s n : Nat) (e q : Int) (w : World) (hE : EnvF w) (he : -1100 ≤ e) (he2 : e ≤ 1100) (hx : x < 18446744073709551616) (hm : x * 11258999068426240000 = h * 18446744073709551616) (hh : h < 18446744073709551616)
    (hlog : (e + 63) * 78913 / 262144 = q) (hq : (n : Int) - 1 - q = 4) (hn : n ≤ 18) (hs : -(e + 13 + 3) = (s : Int)) (hs64 : s < 64) (hu : cutU h s < 4611686018427387904) :
    Calls Tryz.prog 96 #[.int .u64 x, .int .i64 e, .int .i64 n, .int .i64 3, .int .u8 102] w fun e' w' => e' = .returned (.tuple #[.int .u64 ((rndU (divU (cutU h s)) : Nat) : Int), .int .i64 (-3)]) ∧ Below w.heap.size w w' := by
  have HL := Lib.hid (fun W => log10_any (e + 63) W (by omega) (by omega))
  rw [hlog] at HL
  have HL2 : Hid (∀ W, Calls Tryz.prog 121 #[.int .i64 4] W fun e w' => e = .returned (.int .i64 13) ∧ W = w') := fun W => log2_any 4 W (by decide)
  have HPs := Lib.hid (prescale4 w e (by omega) (by omega) hE)
  rw [hs] at HPs
  obtain ⟨wo, hwo⟩ : ∃ wo, w.alloc (.cells #[.int .u64 11258999068426240000, .int .u64 0, .int .i64 (s : Int)] 138) = wo := ⟨_, rfl⟩
  have hbo : Below w.heap.size w wo := by rw [← hwo]; exact (Below.refl _ _).alloc (Nat.le_refl _) _
  rw [hwo] at HPs
  have HUs := Lib.hid (uscale_any x 11258999068426240000 h s w.heap.size wo hx (by decide) hm hh hs64 (by rw [← hwo, World.cell?_alloc_at _ _ _ _ rfl]; rfl) (by rw [← hwo, World.cell?_alloc_at _ _ _ _ rfl]; rfl) (by rw [← hwo, World.cell?_alloc_at _ _ _ _ rfl]; rfl))
  have HEo := Lib.hid (hE.below hbo)
  have HBo := Lib.hid hbo
  have hp1 : 10 ^ n ≤ 10 ^ 18 := Nat.pow_le_pow_right (by decide) hn
  have hp0 : 1 ≤ 10 ^ n := Nat.one_le_pow _ _ (by decide)
  have HUm := Lib.hid (fun W => unmin_any (10 ^ n) W (by have : (10 : Nat) ^ 18 = 1000000000000000000 := rfl; omega) hp0)
  have HPC := Lib.hid (fun m => pow_cell (HEo.out.drewN m) n (by omega))
  have HDv := Lib.hid (fun W => div_any (cutU h s) W hu)
  have HRd := Lib.hid (fun W => round_any (cutU h s) W hu)
  have HRd2 := Lib.hid (fun W => round_any (divU (cutU h s)) W (lor_lt _ _ (lor_lt _ _ (by omega) (by omega)) (by split <;> omega)))
  have hnn : (n : Int) ≤ 18 := by omega
  have hn0 : (0 : Int) ≤ (n : Int) := by omega
  have hqb : -400 ≤ q ∧ q ≤ 400 := by omega
  obtain ⟨hq1, hq2⟩ := hqb
  generalize cutU h s = u at *
  generalize divU u = u2 at *
  obtain ⟨r, hr⟩ : ∃ r, rndU (u2) = r := ⟨_, rfl⟩
  rw [hr]
  rw [hr] at HRd2
  generalize 10 ^ n = t at *
  obtain ⟨d, hd⟩ : ∃ d, t * 4 - 2 = d := ⟨_, rfl⟩
  rw [hd] at HUm
  clear hE hx hm hh hlog hs hbo hwo hr hp1 hp0
  by_cases hlt : u < d
  · have hlt1 : ¬ ((d : Int) ≤ (u : Int)) := by omega
    have hlt2 : (u : Int) < (d : Int) := by omega
    have hlt3 : decide (d ≤ u) = false := decide_eq_false (by omega)
    clear hlt hd hu
    go_enter Tryz.func96, Tryz.ntmps96
    go_wp2_with fail
    refine (HL.out _).mono ?_
    rintro e1 w1 ⟨rfl, rfl⟩
    go_wp2_with fail
    refine (HL2.out _).mono ?_
    rintro e1 w1 ⟨rfl, rfl⟩
    go_wp2_with fail
    refine HPs.out.mono ?_
    rintro e1 w1 ⟨rfl, rfl⟩
    go_wp2_with fail
    refine HUs.out.mono ?_
    rintro e1 w2 ⟨rfl, m1, rfl⟩
    have hpc := HPC.out m1
    go_wp2_with fail
    refine (HUm.out _).mono ?_
    rintro e1 w2 ⟨rfl, rfl⟩
    go_wp2_with fail
    go_loopw [13, 11] (fun vu vp wr => FixR w1 m1 u u2 vu vp wr) (fun _ vp _ => (intOf vp).toNat)
    case atStart => exact .inl ⟨rfl, rfl, rfl⟩
    case round =>
      rcases hrel with ⟨rfl, rfl, rfl⟩ | ⟨rfl, rfl, m2, rfl⟩
      · go_wp2_with fail
        refine (HDv.out _).mono ?_
        rintro e1 w2 ⟨rfl, m2, rfl⟩
        go_wp2_with fail
        go_roundw
        case rel => first | exact .inr ⟨rfl, rfl, _, rfl⟩ | ((repeat apply Exists.intro); exact ⟨.inr ⟨rfl, rfl, _, rfl⟩, rfl⟩)
        case measure => simp [intOf]
      · go_wp2_with fail
        refine (HRd2.out _).mono ?_
        rintro e1 w3 ⟨rfl, rfl⟩
        go_wp2_with fail
        refine bodyPost_ret (results_tmp2 rfl _ _ _) rfl ?_
        exact ⟨rfl, below_drewN HBo.out _⟩
  · have hlt1 : (d : Int) ≤ (u : Int) := by omega
    have hlt3 : decide (d ≤ u) = true := decide_eq_true (by omega)
    clear hlt hd hu
    go_enter Tryz.func96, Tryz.ntmps96
    go_wp2_with fail
    refine (HL.out _).mono ?_
    rintro e1 w1 ⟨rfl, rfl⟩
    go_wp2_with fail
    refine (HL2.out _).mono ?_
    rintro e1 w1 ⟨rfl, rfl⟩
    go_wp2_with fail
    refine HPs.out.mono ?_
    rintro e1 w1 ⟨rfl, rfl⟩
    go_wp2_with fail
    refine HUs.out.mono ?_
    rintro e1 w2 ⟨rfl, m1, rfl⟩
    have hpc := HPC.out m1
    go_wp2_with fail
    refine (HUm.out _).mono ?_
    rintro e1 w2 ⟨rfl, rfl⟩
    go_wp2_with fail
    refine (HDv.out _).mono ?_
    rintro e1 w2 ⟨rfl, m3, rfl⟩
    go_wp2_with fail
    go_loopw [13, 11] (fun vu vp wr => FixR w1 m1 u u2 vu vp wr) (fun _ vp _ => (intOf vp).toNat)
    case atStart => exact .inr ⟨rfl, rfl, _, rfl⟩
    case round =>
      rcases hrel with ⟨rfl, rfl, rfl⟩ | ⟨rfl, rfl, m2, rfl⟩
      · go_wp2_with fail
        refine (HDv.out _).mono ?_
        rintro e1 w2 ⟨rfl, m2, rfl⟩
        go_wp2_with fail
        go_roundw
        case rel => first | exact .inr ⟨rfl, rfl, _, rfl⟩ | ((repeat apply Exists.intro); exact ⟨.inr ⟨rfl, rfl, _, rfl⟩, rfl⟩)
        case measure => simp [intOf]
      · go_wp2_with fail
        refine (HRd2.out _).mono ?_
        rintro e1 w3 ⟨rfl, rfl⟩
        go_wp2_with fail
        refine bodyPost_ret (results_tmp2 rfl _ _ _) rfl ?_
        exact ⟨rfl, below_drewN HBo.out _⟩
end Go.Proofs.YtmhgacgneckboaaGreatDoor
