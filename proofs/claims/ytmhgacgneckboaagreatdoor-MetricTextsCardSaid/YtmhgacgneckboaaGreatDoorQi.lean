/- A walk: the library's digits of a number, laid into a buffer, without the noughts at their end. A walk: the library's text of a float, three digits behind the point. -/
import Derived.Lib.ItoaMem
import Derived.Lib.ItoaLen
import Derived.BigRegion
import Derived.Test.YtmhgacgneckboaaGreatDoorQg
import Derived.Test.YtmhgacgneckboaaGreatDoorQh
namespace Go.Proofs.YtmhgacgneckboaaGreatDoor
open Go Go.RowKit Fta Go.Sort Go.Lib

theorem putRow_below {α : Type} [Inhabited α] (enc : α → Value) (w : World) (b off n : Nat) (d : Array α) : Below b w ((putRow enc w b off d).drewN n) :=
  (⟨rfl, rfl, rfl, by simp, fun k hk => by
    show (w.heap.modify b _)[k]? = _
    rw [Array.getElem?_modify, if_neg (by omega)]⟩ : Below b w (putRow enc w b off d)).trans (below_drewN (Below.refl _ _) n)
/-- What setDigits leaves. -/
def DigEnd (b u : Nat) (w : World) (e : Ending) (w' : World) : Prop :=
  ∃ k, k ≤ nDigits u ∧ (∀ j, k ≤ j → j < nDigits u → (decDigits u)[j]? = some 48) ∧ (k ≠ 0 → (decDigits u)[k - 1]? ≠ some 48) ∧ e = .returned (.tuple #[.int .i64 ((nDigits u : Nat) - 3), .int .i64 k]) ∧
    (∀ j, j < k → ∃ c, (decDigits u)[j]? = some c ∧ w'.cell? ⟨b, j, none⟩ = some (.int .u8 (c.toNat : Int))) ∧ Below b w w'
set_option maxHeartbeats 1000000 in
set_option maxRecDepth 100000 in
theorem setDigits_any (b u : Nat) (w : World) (hH : ∀ j, j < 24 → w.cell? ⟨b, j, none⟩ = some (.int .u8 0) ∧ w.frozen? ⟨b, j, none⟩ = false) (h2 : u < 18446744073709551616) :
    Calls Tryz.prog 93 #[.slice (some ⟨b, 0, none⟩) 24 24, .int .u64 u, .int .i64 (-3), .int .i64 (nDigits u)] w (DigEnd b u w) := by
  have hn20 := nDigits_le20 u h2
  have hn1 := nDigits_pos u
  have hlen := decDigits_length u
  obtain ⟨N, hN⟩ : ∃ N, nDigits u = N := ⟨_, rfl⟩
  have hHo : Holds (fun (b : UInt8) => Value.int .u8 (b.toNat : Int)) w b 0 (Array.replicate N (0 : UInt8)) := fun j hj => by
    have hj' : j < N := by simpa using hj
    rw [Nat.zero_add]
    obtain ⟨a1, a2⟩ := hH j (by omega)
    refine ⟨?_, a2⟩
    rw [a1, getElem!_pos _ j hj]; simp
  have hlt : u < 10 ^ N := by rw [← hN]; exact lt_pow_nDigits u
  have HF := Tryz.internal_strconv_formatBase10 b 0 24 u (Array.replicate N (0 : UInt8)) w hHo (by simpa using hlt) h2 (by simp; omega)
  rw [show (Array.replicate N (0 : UInt8)).size = N by simp] at HF
  have HF2 := Lib.hid HF
  have HHo := Lib.hid hHo
  have HDE : Hid (DigEnd b u w = fun e w' => ∃ k, k ≤ N ∧ (∀ j, k ≤ j → j < N → (decDigits u)[j]? = some 48) ∧ (k ≠ 0 → (decDigits u)[k - 1]? ≠ some 48) ∧ e = .returned (.tuple #[.int .i64 ((N : Nat) - 3), .int .i64 k]) ∧
    (∀ j, j < k → ∃ c, (decDigits u)[j]? = some c ∧ w'.cell? ⟨b, j, none⟩ = some (.int .u8 (c.toNat : Int))) ∧ Below b w w') := by rw [← hN]; rfl
  rw [hN] at hn20 hn1 hlen ⊢
  have HL := Lib.hid hlen
  have HNE := Lib.hid hN
  have hNi : (N : Int) ≤ 24 := by omega
  have hN0 : (0 : Int) ≤ (N : Int) := by omega
  clear HF hHo hlt hH hlen hN
  go_enter Tryz.func93, Tryz.ntmps93
  go_wp2_with fail
  refine HF2.out.mono ?_
  rintro e w1 ⟨rfl, n1, v1, dk, rfl, hinv⟩
  have hsz : dk.size = N := hinv.size
  have hcell : ∀ j, j < N → ∃ c, (decDigits u)[j]? = some c ∧ ((putRow (fun (b : UInt8) => Value.int .u8 (b.toNat : Int)) w b 0 dk).drewN n1).cell? ⟨b, j, none⟩ = some (.int .u8 (c.toNat : Int)) := fun j hj => by
    have hjl : j < (decDigits u).length := by rw [HL.out]; exact hj
    refine ⟨(decDigits u)[j], List.getElem?_eq_getElem hjl, ?_⟩
    have := cell?_putRow (fun (b : UInt8) => Value.int .u8 (b.toNat : Int)) w b 0 (Array.replicate N (0 : UInt8)) dk HHo.out (by rw [hsz]; simp) j (by omega)
    rw [Nat.zero_add] at this
    rw [row_is_numeral (by rw [HNE.out]; exact hinv) j hjl]
    exact this
  have hbel := putRow_below (fun (b : UInt8) => Value.int .u8 (b.toNat : Int)) w b 0 n1 dk
  obtain ⟨w1, hw1⟩ : ∃ w1, (putRow (fun (b : UInt8) => Value.int .u8 (b.toNat : Int)) w b 0 dk).drewN n1 = w1 := ⟨_, rfl⟩
  rw [hw1] at hcell hbel ⊢
  have HC := Lib.hid hcell
  have HB := Lib.hid hbel
  clear hcell hbel hw1 hinv hsz HF2 HHo
  go_wp2_with fail
  go_loopw [3] (fun vk wr => ∃ k : Nat, k ≤ N ∧ vk = .int .i64 k ∧ Hid (∀ j, k ≤ j → j < N → (decDigits u)[j]? = some 48) ∧ ∃ q, wr = w1.drewN q) (fun vk _ => (RowKit.intOf vk).toNat)
  case atStart => exact ⟨N, Nat.le_refl _, rfl, fun j a b => by omega, 0, rfl⟩
  case round =>
    obtain ⟨k, hk, rfl, HZ, q, rfl⟩ := hrel
    by_cases h0 : k = 0
    · subst h0
      have HE : Hid (DigEnd b u w (.returned (.tuple #[.int .i64 ((N : Nat) - 3), .int .i64 0])) (w1.drewN q)) := by
        show DigEnd _ _ _ _ _
        rw [HDE.out]
        exact ⟨0, hk, HZ.out, fun h => absurd rfl h, rfl, fun j hj => by omega, below_drewN HB.out q⟩
      go_wp2_with fail
      refine bodyPost_ret (results_tmp2 rfl _ _ _) rfl ?_
      exact HE.out
    · obtain ⟨p, rfl⟩ : ∃ p, k = p + 1 := ⟨k - 1, by omega⟩
      obtain ⟨c, hc, y0⟩ := HC.out p (by omega)
      have y1 : (w1.drewN q).cell? ⟨b, p, none⟩ = some (.int .u8 (c.toNat : Int)) := y0
      have hsub : ((p : Int) + 1) - 1 = (p : Int) := by omega
      have hp0 : (0 : Int) ≤ (p : Int) := by omega
      have hp24 : (p : Int) < 24 := by omega
      have hpp : (0 : Int) < (p : Int) + 1 := by omega
      have HCp := Lib.hid hc
      clear y0 hc
      by_cases hd : c = 48
      · subst hd
        have HZ2 : Hid (∀ j, p ≤ j → j < N → (decDigits u)[j]? = some 48) := fun j a b => by
          rcases Nat.lt_or_ge p j with h | h
          · exact HZ.out j h b
          · obtain rfl : j = p := by omega
            exact HCp.out
        clear HZ
        go_wp2_with fail
        go_roundw
        case rel => exact ⟨p, by omega, by go_num, HZ2, _, rfl⟩
        case measure => simp [RowKit.intOf]
      · have hd2 : ((c.toNat : Int) == 48) = false := by
          rw [beq_eq_false_iff_ne]
          intro e
          exact hd (UInt8.toNat_inj.1 (by simpa using Int.ofNat.inj e))
        have HE : Hid (DigEnd b u w (.returned (.tuple #[.int .i64 ((N : Nat) - 3), .int .i64 ((p : Int) + 1)])) (w1.drewN q)) := by
          show DigEnd _ _ _ _ _
          rw [HDE.out]
          refine ⟨p + 1, hk, HZ.out, fun _ => ?_, by simp, fun j hj => ?_, below_drewN HB.out q⟩
          · rw [Nat.add_sub_cancel, HCp.out]
            intro e
            injection e with e
            exact hd e
          · obtain ⟨c', a1, a2⟩ := HC.out j (by omega)
            exact ⟨c', a1, a2⟩
        clear HZ hd
        go_wp2_with fail
        refine bodyPost_ret (results_tmp2 rfl _ _ _) rfl ?_
        exact HE.out
end Go.Proofs.YtmhgacgneckboaaGreatDoor

namespace Fta
open Go Go.Lib
/-- The text of d thousandths, all three digits behind the point. -/
def fix3 (d : Nat) : List UInt8 :=
  if 3 < nDigits d then (decDigits d).take (nDigits d - 3) ++ [46] ++ (decDigits d).drop (nDigits d - 3) else [48, 46] ++ rep (3 - nDigits d) ++ decDigits d
theorem take_rep {D : List UInt8} {k N : Nat} (hN : D.length = N) (hk : k ≤ N) (hz : ∀ j, k ≤ j → j < N → D[j]? = some 48) : D = D.take k ++ rep (N - k) := by
  refine List.ext_getElem? fun j => ?_
  rcases Nat.lt_or_ge j k with h | h
  · rw [List.getElem?_append_left (by rw [List.length_take]; omega), List.getElem?_take, if_pos h]
  · rw [List.getElem?_append_right (by rw [List.length_take]; omega), List.length_take, Nat.min_eq_left (by omega)]
    unfold rep
    rw [List.getElem?_replicate]
    split
    · exact hz j h (by omega)
    · exact List.getElem?_eq_none (by omega)
theorem rep_take (a b : Nat) : (rep a).take b = rep (min b a) := by unfold rep; rw [List.take_replicate]
theorem rep_drop (a b : Nat) : (rep a).drop b = rep (a - b) := by unfold rep; rw [List.drop_replicate]
theorem upL_fix {D : List UInt8} {k N P : Nat} (hN : D.length = N) (hP : N = P + 3) (hk : k ≤ N) (hz : ∀ j, k ≤ j → j < N → D[j]? = some 48) : upL (D.take k) P = D.take P ++ [46] ++ D.drop P := by
  have e := take_rep hN hk hz
  have hl : (D.take k).length = k := by rw [List.length_take]; omega
  conv => rhs; rw [e]
  generalize D.take k = D' at *
  unfold upL
  rw [hl, List.take_append, List.drop_append, hl, rep_take, rep_drop, show min (P - k) (N - k) = P - min k P by omega, show N - k - (P - k) = 3 - min 3 (k - P) by omega]
  rw [List.take_of_length_le (l := D'.drop P) (by rw [List.length_drop, hl]; omega)]
  have : D'.take (min k P) = D'.take P := by
    rcases Nat.le_total k P with h | h
    · rw [Nat.min_eq_left h, List.take_of_length_le (by omega), List.take_of_length_le (by omega)]
    · rw [Nat.min_eq_right h]
  rw [this]
  simp only [List.append_assoc]
theorem lowL_fix {D : List UInt8} {k N Q : Nat} (hN : D.length = N) (hQ : N + Q = 3) (hk : k ≤ N) (hz : ∀ j, k ≤ j → j < N → D[j]? = some 48) : lowL (D.take k) Q = [48, 46] ++ rep Q ++ D := by
  have e := take_rep hN hk hz
  have hl : (D.take k).length = k := by rw [List.length_take]; omega
  conv => rhs; rw [e]
  generalize D.take k = D' at *
  unfold lowL
  rw [hl, show min (3 - Q) k = k by omega, show 3 - Q - k = N - k by omega, List.take_of_length_le (by omega)]
  simp only [List.append_assoc]
def sgn (neg : Bool) : List UInt8 := if neg then [45] else []
end Fta
namespace Go.Proofs.YtmhgacgneckboaaGreatDoor
open Go Go.RowKit Fta Go.Sort

theorem own_belowB {w w' : World} {base B : Nat} {e : TypeId} {k : Nat} {v : Value} {n : Nat} {xs : List Value} (h : w.ownsRow base e k v n xs) (hb : Below B w w') (hlt : ∀ g, v.ownBlock = some g → g < B) : w'.ownsRow base e k v n xs := by
  refine ⟨h.1, ?_⟩
  rcases h.2 with h | ⟨g, cap, cur, hv, hg, hh, rest⟩
  · exact .inl h
  · refine .inr ⟨g, cap, cur, hv, hg, ?_, rest⟩
    rw [hb.block g (hlt g (by rw [hv]; rfl))]; exact hh
theorem below_step0 {w0 w w' : World} {P : Prop} (h : Below w0.heap.size w0 w) (hb : Below w.heap.size w w') (_ : P) : Below w0.heap.size w0 w' := below_step h hb
theorem below_stepB {w0 w a b : World} {q : Nat} (h : Below w0.heap.size w0 w) (ha : Below w.heap.size w a) (hb : Below q a.drew b) (hq : w.heap.size ≤ q) : Below w0.heap.size w0 b :=
  (below_step h (below_drewN ha 1)).trans (hb.mono (Nat.le_trans h.size hq))
theorem run_sbits (z : Nat) (w : World) : (callFunc 87 #[.float .f64 z]).run Tryz.prog w = .ok (.value (.int .u64 z)) w := by
  rw [run_callFunc_extern (e := Extern.MathFloatBits.float64bits) Tryz.func87 (by kernel_rfl) (by kernel_rfl) (by kernel_rfl) (by kernel_rfl)]; rfl
theorem bitLen53 (M : Nat) (h1 : 4503599627370496 ≤ M) (h2 : M < 9007199254740992) : Lib.bitLen M = 53 := by
  rw [Lib.bitLen_shift 52 M h1 (by omega), show M / 2 ^ 52 = 1 by omega]; decide
theorem bits_parts (neg : Bool) (E F b : Nat) (hE : E < 2047) (hF : F < 4503599627370496) (hb : (if neg then 9223372036854775808 else 0) + (E * 4503599627370496 + F) = b) :
    ((b : Int) / 9223372036854775808 = if neg then 1 else 0) ∧ (∃ c : Nat, c < 4096 ∧ (b : Int) / 4503599627370496 = (c : Int) ∧ bits BinOp.and IntKind.i64 (c : Int) 2047 = (E : Int)) ∧ bits BinOp.and IntKind.u64 (b : Int) 4503599627370495 = (F : Int) := by
  have hand : ∀ c : Nat, c < 4096 → bits BinOp.and IntKind.i64 (c : Int) 2047 = ((c % 2048 : Nat) : Int) := fun c hc => by
    have := Adr.and_nat c 2047 (by omega) (by decide)
    rw [show c &&& 2047 = c % 2048 from Nat.and_two_pow_sub_one_eq_mod c 11] at this
    exact this
  have hm := u64_and_nat b 4503599627370495 (by subst hb; split <;> omega) (by decide)
  rw [show b &&& 4503599627370495 = b % 4503599627370496 from Nat.and_two_pow_sub_one_eq_mod b 52] at hm
  refine ⟨?_, ⟨b / 4503599627370496, ?_, by omega, ?_⟩, ?_⟩
  · subst hb; cases neg <;> simp <;> omega
  · subst hb; split <;> omega
  · rw [hand _ (by subst hb; split <;> omega)]
    subst hb
    cases neg <;> simp <;> omega
  · rw [show (4503599627370495 : Int) = ((4503599627370495 : Nat) : Int) from rfl, hm]
    subst hb
    cases neg <;> simp <;> omega
set_option maxHeartbeats 4000000 in
set_option maxRecDepth 100000 in
theorem ftoa_up (w0 w : World) (v : Value) (neg : Bool) (E F n d : Nat) (x : Int) (hE : EnvF w) (hD : Dst w0 w v [] 0 []) (hx : (E : Int) + -1023 = x) (hx0 : 0 ≤ x) (hx1 : x ≤ 48) (hF : F < 4503599627370496)
    (hn : 1 ≤ n) (hn18 : n ≤ 18) (hdig : 1 + (1 + x) * 78913 / 262144 + 3 = (n : Int)) (hd : d < 18446744073709551616)
    (HFx : ∀ W, Below w.heap.size w W → Calls Tryz.prog 96 #[.int .u64 (((4503599627370496 + F) * 2048 : Nat) : Int), .int .i64 (x - 11 - 52), .int .i64 n, .int .i64 3, .int .u8 102] W fun e' w' => e' = .returned (.tuple #[.int .u64 (d : Nat), .int .i64 (-3)]) ∧ Below W.heap.size W w') :
    Calls Tryz.prog 71 #[v, .float .f64 ((if neg then 9223372036854775808 else 0) + (E * 4503599627370496 + F)), .int .u8 102, .int .i64 3] w fun e w' => (∃ v', e = .returned v' ∧ w'.ownsRow w0.heap.size 5 1 v' (sgn neg ++ fix3 d).length (bc (sgn neg ++ fix3 d))) ∧ Below w0.heap.size w0 w' := by
  obtain ⟨b, hb⟩ : ∃ b, (if neg then 9223372036854775808 else 0) + (E * 4503599627370496 + F) = b := ⟨_, rfl⟩
  rw [hb]
  obtain ⟨hq, ⟨c, hc1, hc2, hc3⟩, hm⟩ := bits_parts neg E F b (by omega) hF hb
  have hfb := run_sbits b
  have hE0 : ((E : Int) == 0) = false := by rw [beq_eq_false_iff_ne]; omega
  have hE7 : ((E : Int) == 2047) = false := by rw [beq_eq_false_iff_ne]; omega
  obtain ⟨M, hM⟩ : ∃ M, 4503599627370496 + F = M := ⟨_, rfl⟩
  have hor : bits BinOp.or IntKind.u64 (F : Int) 4503599627370496 = (M : Int) := by
    have := u64_or_nat F 4503599627370496 (by omega) (by decide)
    have hj := nat_join 52 4503599627370496 F (by decide) hF
    rw [Nat.or_comm, hj, hM] at this
    exact this
  have hM1 : 4503599627370496 ≤ M := by omega
  have hM2 : M < 9007199254740992 := by omega
  have hM0 : ((M : Int) == 0) = false := by rw [beq_eq_false_iff_ne]; omega
  have HL := Lib.hid (fun W => log10_any (1 + x) W (by omega) (by omega))
  obtain ⟨q1, hq1⟩ : ∃ q1, (1 + x) * 78913 / 262144 = q1 := ⟨_, rfl⟩
  rw [hq1] at HL hdig
  have HLen : Hid (∀ W : World, Calls Tryz.prog 91 #[.int .u64 M] W fun e w' => e = .returned (.int .i64 53) ∧ w' = W) := fun W => by
    have := Tryz.bits_Len64 M W (by omega) (by omega)
    rw [Int.toNat_natCast, bitLen53 M hM1 hM2] at this
    exact this
  rw [hM] at HFx
  obtain ⟨X, hX⟩ : ∃ X, M * 2048 = X := ⟨_, rfl⟩
  rw [hX] at HFx
  have hshl : IntKind.u64.wrap ((M : Int) * 2048) = (X : Int) := by rw [IntKind.wrap_u64, ← hX]; omega
  have hXi : (M : Int) * 2048 = (X : Int) := by omega
  have HF := Lib.hid HFx
  have HE := Lib.hid hE
  have HD := Lib.hid hD
  have hn18i : (n : Int) ≤ 18 := by omega
  have hn0i : (0 : Int) < (n : Int) := by omega
  have hopt := hE.opt
  have HM := Lib.hid hM
  clear hE hD HFx hb hM hX hF
  cases neg with
  | false =>
    have hq : (b : Int) / 9223372036854775808 = 0 := hq
    go_enter Tryz.func71, Tryz.ntmps71
    go_wp2_with fail
    go_quiet (fail)
    have HB1 := Lib.hid (below_drews (w := w) nq)
    have HE1 := Lib.hid (HE.out.drewN nq)
    have hopt1 := HE1.out.opt
    generalize w.drewN nq = w1 at *
    go_wp2_with fail
    refine (HL.out _).mono ?_
    rintro e w2 ⟨rfl, rfl⟩
    go_wp2_with fail
    refine (HLen.out _).mono ?_
    rintro e w2 ⟨rfl, rfl⟩
    obtain ⟨q, hqq⟩ : ∃ q, w1.heap.size = q := ⟨_, rfl⟩
    obtain ⟨wo, hwo⟩ : ∃ wo, w1.alloc (.cells #[.int .u8 0, .int .u8 0, .int .u8 0, .int .u8 0, .int .u8 0, .int .u8 0, .int .u8 0, .int .u8 0, .int .u8 0, .int .u8 0, .int .u8 0, .int .u8 0, .int .u8 0, .int .u8 0, .int .u8 0, .int .u8 0, .int .u8 0, .int .u8 0, .int .u8 0, .int .u8 0, .int .u8 0, .int .u8 0, .int .u8 0, .int .u8 0] 113) = wo := ⟨_, rfl⟩
    have hbo : Below w1.heap.size w1 wo := by rw [← hwo]; exact (Below.refl _ _).alloc (Nat.le_refl _) _
    have hzo : ∀ j, j < 24 → wo.cell? ⟨q, j, none⟩ = some (.int .u8 0) ∧ wo.frozen? ⟨q, j, none⟩ = false := fun j hj => by
      rw [← hwo, ← hqq]
      refine ⟨?_, World.frozen?_alloc_new _ _ _ _⟩
      rw [World.cell?_alloc_at _ _ _ _ rfl]
      exact Lib.zeros24_at j hj
    have HZo := Lib.hid hzo
    have HBo := Lib.hid (below_step HB1.out hbo)
    have HWO := Lib.hid hwo
    have HQ : Hid (w.heap.size ≤ q) := by show _ ≤ _; rw [← hqq]; exact HB1.out.size
    have HQo : Hid (q < wo.heap.size) := by show _ < _; rw [← hqq, ← hwo]; simp
    have HQQ := Lib.hid hqq
    clear hzo hbo hwo hqq HB1 HE1 hopt1
    go_wp2_with fail
    rw [HWO.out, HQQ.out]
    refine (HF.out wo HBo.out).mono ?_
    rintro e w3 ⟨rfl, hb3⟩
    have HB3 := Lib.hid (below_step HBo.out hb3)
    have HQ2 : Hid (q < w3.heap.size) := Nat.lt_of_lt_of_le HQo.out hb3.size
    have HZ3 : Hid (∀ j, j < 24 → w3.cell? ⟨q, j, none⟩ = some (.int .u8 0) ∧ w3.frozen? ⟨q, j, none⟩ = false) := fun j hj =>
      ⟨(hb3.cell (p := ⟨q, j, none⟩) HQo.out).trans (HZo.out j hj).1, (hb3.frozen (p := ⟨q, j, none⟩) HQo.out).trans (HZo.out j hj).2⟩
    have HE3 := Lib.hid (HE.out.below HB3.out)
    clear HF hb3 HBo HZo HWO HQo
    by_cases hd0 : d = 0
    · have hdi : ((d : Int) != 0) = false := by rw [bne_eq_false_iff_eq]; omega
      have hdj : (d : Int) = 0 := by omega
      have HFin : Hid ([] ++ lowL [] 0 = sgn false ++ fix3 d) := by show _ = _; rw [hd0]; decide +kernel
      have HDD : Hid (Dst w0 w3 v [] q []) := ⟨own_below HD.out.own HB3.out, below_step0 HD.out.bel HB3.out HD.out.own, fun i hi => by simp at hi, fun h => absurd rfl h, fun h => absurd rfl h⟩
      have HC := Lib.hid (efg_lowP w0 w3 v [] [] q 24 false HDD.out (by simp) (by simp) (by omega) 0 0 (by decide) (by omega))
      clear HDD HZ3 HE3 HD hd0
      go_wp2_with fail

      refine HC.out.mono ?_
      rintro e w6 ⟨v6, rfl, hd6⟩
      have HR : Hid (w6.ownsRow w0.heap.size 5 1 v6 (sgn false ++ fix3 d).length (bc (sgn false ++ fix3 d))) := by
        show World.ownsRow _ _ _ _ _ _ _
        rw [← HFin.out]; exact hd6.own
      have HB6 := Lib.hid hd6.bel
      clear hd6 HC
      go_wp2_with fail
      go_ret
      exact ⟨⟨_, rfl, HR.out⟩, HB6.out⟩
    · have hdi : ((d : Int) != 0) = true := by rw [bne_iff_ne]; omega
      have hdj : ¬ (d : Int) = 0 := by omega
      have HNd := Lib.hid (Tryz.internal_strconv_numDigits d (by omega) hd w3.drew (HE3.out.drewN 1).env.tb)
      have HSd := Lib.hid (setDigits_any q d w3.drew HZ3.out hd)
      unfold DigEnd at HSd
      clear HZ3 HE3 hd0
      go_wp2_with fail
      go_region_with (first | (go_at_call 94; refine HNd.out.mono ?_; rintro e w4 ⟨rfl, rfl⟩) | (go_at_call 93; refine HSd.out.mono ?_; rintro e w5 ⟨k, hk, hz, -, rfl, hdg, hb5⟩))
      obtain ⟨ds, hds⟩ : ∃ ds, (Lib.decDigits d).take k = ds := ⟨_, rfl⟩
      have hdl : ds.length = k := by rw [← hds, List.length_take, Lib.decDigits_length]; omega
      have hDD : Dst w0 w5 v [] q ds := by
        refine ⟨own_belowB (own_below HD.out.own HB3.out).drew hb5 (fun g hg => Nat.lt_of_lt_of_le (HD.out.own.lt g hg).2 HQ.out), below_stepB HD.out.bel (HB3.out) hb5 HQ.out, fun i hi => ?_, fun _ e => ?_, fun _ => Nat.lt_of_lt_of_le HQ2.out hb5.size⟩
        · obtain ⟨c, a1, a2⟩ := hdg i (by rw [hdl] at hi; exact hi)
          have : ds[i]? = some c := by rw [← hds, List.getElem?_take, if_pos (by rw [hdl] at hi; exact hi)]; exact a1
          rw [List.getElem?_eq_getElem hi] at this
          injection this with this
          rw [this]; exact a2
        · have h1 := (HD.out.own.lt q e).2
          have h2 := HQ.out
          omega
      have HDD := Lib.hid hDD
      have HDS := Lib.hid hds
      have hkN := hk
      have HZ := Lib.hid hz
      have HN20 := Lib.nDigits_le20 d hd
      clear hDD hds hz hdg hb5 hk
      by_cases h3 : 3 < Lib.nDigits d
      · obtain ⟨P, hP⟩ : ∃ P, Lib.nDigits d = P + 3 := ⟨Lib.nDigits d - 3, by omega⟩
        have HFin : Hid ([] ++ upL ds P = sgn false ++ fix3 d) := by
          show _ = _
          rw [← HDS.out, upL_fix (Lib.decDigits_length d) hP (by rw [hP] at hkN ⊢; exact hkN) (by rw [hP]; rw [hP] at HZ; exact HZ.out)]
          unfold fix3 sgn
          rw [if_pos h3, hP, Nat.add_sub_cancel]; rfl
        have HC := Lib.hid (efg_upP w0 w5 v [] ds q 24 P false HDD.out (by simp) (by omega) (by omega) (by omega) (by omega))
        rw [hdl] at HC
        rw [hP]
        have hpi : (((P + 3 : Nat) : Int)) - 3 = (P : Int) := by omega
        have hpi2 : (P : Int) + 3 - 3 = (P : Int) := by omega
        clear HDD HDS HZ hkN hdl h3 hP
        go_wp2_with fail
        refine HC.out.mono ?_
        rintro e w6 ⟨v6, rfl, hd6⟩
        have HR : Hid (w6.ownsRow w0.heap.size 5 1 v6 (sgn false ++ fix3 d).length (bc (sgn false ++ fix3 d))) := by
          show World.ownsRow _ _ _ _ _ _ _
          rw [← HFin.out]; exact hd6.own
        have HB6 := Lib.hid hd6.bel
        clear hd6 HC
        go_wp2_with fail
        go_ret
        exact ⟨⟨_, rfl, HR.out⟩, HB6.out⟩
      · obtain ⟨Q, hQ⟩ : ∃ Q, Lib.nDigits d + Q = 3 := ⟨3 - Lib.nDigits d, by omega⟩
        have HFin : Hid ([] ++ lowL ds Q = sgn false ++ fix3 d) := by
          show _ = _
          rw [← HDS.out, lowL_fix (Lib.decDigits_length d) hQ hkN HZ.out]
          unfold fix3 sgn
          rw [if_neg h3, show 3 - Lib.nDigits d = Q by omega]; rfl
        have HC := Lib.hid (efg_lowP w0 w5 v [] ds q 24 false HDD.out (by simp) (by omega) (by omega) Q ((Lib.nDigits d : Nat) - 3) (by omega) (by omega))
        rw [hdl] at HC
        clear HDD HDS HZ hkN hdl h3 hQ
        go_wp2_with fail
        refine HC.out.mono ?_
        rintro e w6 ⟨v6, rfl, hd6⟩
        have HR : Hid (w6.ownsRow w0.heap.size 5 1 v6 (sgn false ++ fix3 d).length (bc (sgn false ++ fix3 d))) := by
          show World.ownsRow _ _ _ _ _ _ _
          rw [← HFin.out]; exact hd6.own
        have HB6 := Lib.hid hd6.bel
        clear hd6 HC
        go_wp2_with fail
        go_ret
        exact ⟨⟨_, rfl, HR.out⟩, HB6.out⟩
  | true =>
    have hq : (b : Int) / 9223372036854775808 = 1 := hq
    go_enter Tryz.func71, Tryz.ntmps71
    go_wp2_with fail
    go_quiet (fail)
    have HB1 := Lib.hid (below_drews (w := w) nq)
    have HE1 := Lib.hid (HE.out.drewN nq)
    have hopt1 := HE1.out.opt
    generalize w.drewN nq = w1 at *
    go_wp2_with fail
    refine (HL.out _).mono ?_
    rintro e w2 ⟨rfl, rfl⟩
    go_wp2_with fail
    refine (HLen.out _).mono ?_
    rintro e w2 ⟨rfl, rfl⟩
    obtain ⟨q, hqq⟩ : ∃ q, w1.heap.size = q := ⟨_, rfl⟩
    obtain ⟨wo, hwo⟩ : ∃ wo, w1.alloc (.cells #[.int .u8 0, .int .u8 0, .int .u8 0, .int .u8 0, .int .u8 0, .int .u8 0, .int .u8 0, .int .u8 0, .int .u8 0, .int .u8 0, .int .u8 0, .int .u8 0, .int .u8 0, .int .u8 0, .int .u8 0, .int .u8 0, .int .u8 0, .int .u8 0, .int .u8 0, .int .u8 0, .int .u8 0, .int .u8 0, .int .u8 0, .int .u8 0] 113) = wo := ⟨_, rfl⟩
    have hbo : Below w1.heap.size w1 wo := by rw [← hwo]; exact (Below.refl _ _).alloc (Nat.le_refl _) _
    have hzo : ∀ j, j < 24 → wo.cell? ⟨q, j, none⟩ = some (.int .u8 0) ∧ wo.frozen? ⟨q, j, none⟩ = false := fun j hj => by
      rw [← hwo, ← hqq]
      refine ⟨?_, World.frozen?_alloc_new _ _ _ _⟩
      rw [World.cell?_alloc_at _ _ _ _ rfl]
      exact Lib.zeros24_at j hj
    have HZo := Lib.hid hzo
    have HBo := Lib.hid (below_step HB1.out hbo)
    have HWO := Lib.hid hwo
    have HQ : Hid (w.heap.size ≤ q) := by show _ ≤ _; rw [← hqq]; exact HB1.out.size
    have HQo : Hid (q < wo.heap.size) := by show _ < _; rw [← hqq, ← hwo]; simp
    have HQQ := Lib.hid hqq
    clear hzo hbo hwo hqq HB1 HE1 hopt1
    go_wp2_with fail
    rw [HWO.out, HQQ.out]
    refine (HF.out wo HBo.out).mono ?_
    rintro e w3 ⟨rfl, hb3⟩
    have HB3 := Lib.hid (below_step HBo.out hb3)
    have HQ2 : Hid (q < w3.heap.size) := Nat.lt_of_lt_of_le HQo.out hb3.size
    have HZ3 : Hid (∀ j, j < 24 → w3.cell? ⟨q, j, none⟩ = some (.int .u8 0) ∧ w3.frozen? ⟨q, j, none⟩ = false) := fun j hj =>
      ⟨(hb3.cell (p := ⟨q, j, none⟩) HQo.out).trans (HZo.out j hj).1, (hb3.frozen (p := ⟨q, j, none⟩) HQo.out).trans (HZo.out j hj).2⟩
    have HE3 := Lib.hid (HE.out.below HB3.out)
    clear HF hb3 HBo HZo HWO HQo
    by_cases hd0 : d = 0
    · have hdi : ((d : Int) != 0) = false := by rw [bne_eq_false_iff_eq]; omega
      have hdj : (d : Int) = 0 := by omega
      have HFin : Hid ([] ++ [45] ++ lowL [] 0 = sgn true ++ fix3 d) := by show _ = _; rw [hd0]; decide +kernel
      have HDD : Hid (Dst w0 w3 v [] q []) := ⟨own_below HD.out.own HB3.out, below_step0 HD.out.bel HB3.out HD.out.own, fun i hi => by simp at hi, fun h => absurd rfl h, fun h => absurd rfl h⟩
      have HC := Lib.hid (efg_lowN w0 w3 v [] [] q 24 false HDD.out (by simp) (by simp) (by omega) 0 0 (by decide) (by omega))
      clear HDD HZ3 HE3 HD hd0
      go_wp2_with fail

      refine HC.out.mono ?_
      rintro e w6 ⟨v6, rfl, hd6⟩
      have HR : Hid (w6.ownsRow w0.heap.size 5 1 v6 (sgn true ++ fix3 d).length (bc (sgn true ++ fix3 d))) := by
        show World.ownsRow _ _ _ _ _ _ _
        rw [← HFin.out]; exact hd6.own
      have HB6 := Lib.hid hd6.bel
      clear hd6 HC
      go_wp2_with fail
      go_ret
      exact ⟨⟨_, rfl, HR.out⟩, HB6.out⟩
    · have hdi : ((d : Int) != 0) = true := by rw [bne_iff_ne]; omega
      have hdj : ¬ (d : Int) = 0 := by omega
      have HNd := Lib.hid (Tryz.internal_strconv_numDigits d (by omega) hd w3.drew (HE3.out.drewN 1).env.tb)
      have HSd := Lib.hid (setDigits_any q d w3.drew HZ3.out hd)
      unfold DigEnd at HSd
      clear HZ3 HE3 hd0
      go_wp2_with fail
      go_region_with (first | (go_at_call 94; refine HNd.out.mono ?_; rintro e w4 ⟨rfl, rfl⟩) | (go_at_call 93; refine HSd.out.mono ?_; rintro e w5 ⟨k, hk, hz, -, rfl, hdg, hb5⟩))
      obtain ⟨ds, hds⟩ : ∃ ds, (Lib.decDigits d).take k = ds := ⟨_, rfl⟩
      have hdl : ds.length = k := by rw [← hds, List.length_take, Lib.decDigits_length]; omega
      have hDD : Dst w0 w5 v [] q ds := by
        refine ⟨own_belowB (own_below HD.out.own HB3.out).drew hb5 (fun g hg => Nat.lt_of_lt_of_le (HD.out.own.lt g hg).2 HQ.out), below_stepB HD.out.bel (HB3.out) hb5 HQ.out, fun i hi => ?_, fun _ e => ?_, fun _ => Nat.lt_of_lt_of_le HQ2.out hb5.size⟩
        · obtain ⟨c, a1, a2⟩ := hdg i (by rw [hdl] at hi; exact hi)
          have : ds[i]? = some c := by rw [← hds, List.getElem?_take, if_pos (by rw [hdl] at hi; exact hi)]; exact a1
          rw [List.getElem?_eq_getElem hi] at this
          injection this with this
          rw [this]; exact a2
        · have h1 := (HD.out.own.lt q e).2
          have h2 := HQ.out
          omega
      have HDD := Lib.hid hDD
      have HDS := Lib.hid hds
      have hkN := hk
      have HZ := Lib.hid hz
      have HN20 := Lib.nDigits_le20 d hd
      clear hDD hds hz hdg hb5 hk
      by_cases h3 : 3 < Lib.nDigits d
      · obtain ⟨P, hP⟩ : ∃ P, Lib.nDigits d = P + 3 := ⟨Lib.nDigits d - 3, by omega⟩
        have HFin : Hid ([] ++ [45] ++ upL ds P = sgn true ++ fix3 d) := by
          show _ = _
          rw [← HDS.out, upL_fix (Lib.decDigits_length d) hP (by rw [hP] at hkN ⊢; exact hkN) (by rw [hP]; rw [hP] at HZ; exact HZ.out)]
          unfold fix3 sgn
          rw [if_pos h3, hP, Nat.add_sub_cancel]; rfl
        have HC := Lib.hid (efg_upN w0 w5 v [] ds q 24 P false HDD.out (by simp) (by omega) (by omega) (by omega) (by omega))
        rw [hdl] at HC
        rw [hP]
        have hpi : (((P + 3 : Nat) : Int)) - 3 = (P : Int) := by omega
        have hpi2 : (P : Int) + 3 - 3 = (P : Int) := by omega
        clear HDD HDS HZ hkN hdl h3 hP
        go_wp2_with fail
        refine HC.out.mono ?_
        rintro e w6 ⟨v6, rfl, hd6⟩
        have HR : Hid (w6.ownsRow w0.heap.size 5 1 v6 (sgn true ++ fix3 d).length (bc (sgn true ++ fix3 d))) := by
          show World.ownsRow _ _ _ _ _ _ _
          rw [← HFin.out]; exact hd6.own
        have HB6 := Lib.hid hd6.bel
        clear hd6 HC
        go_wp2_with fail
        go_ret
        exact ⟨⟨_, rfl, HR.out⟩, HB6.out⟩
      · obtain ⟨Q, hQ⟩ : ∃ Q, Lib.nDigits d + Q = 3 := ⟨3 - Lib.nDigits d, by omega⟩
        have HFin : Hid ([] ++ [45] ++ lowL ds Q = sgn true ++ fix3 d) := by
          show _ = _
          rw [← HDS.out, lowL_fix (Lib.decDigits_length d) hQ hkN HZ.out]
          unfold fix3 sgn
          rw [if_neg h3, show 3 - Lib.nDigits d = Q by omega]; rfl
        have HC := Lib.hid (efg_lowN w0 w5 v [] ds q 24 false HDD.out (by simp) (by omega) (by omega) Q ((Lib.nDigits d : Nat) - 3) (by omega) (by omega))
        rw [hdl] at HC
        clear HDD HDS HZ hkN hdl h3 hQ
        go_wp2_with fail
        refine HC.out.mono ?_
        rintro e w6 ⟨v6, rfl, hd6⟩
        have HR : Hid (w6.ownsRow w0.heap.size 5 1 v6 (sgn true ++ fix3 d).length (bc (sgn true ++ fix3 d))) := by
          show World.ownsRow _ _ _ _ _ _ _
          rw [← HFin.out]; exact hd6.own
        have HB6 := Lib.hid hd6.bel
        clear hd6 HC
        go_wp2_with fail
        go_ret
        exact ⟨⟨_, rfl, HR.out⟩, HB6.out⟩
end Go.Proofs.YtmhgacgneckboaaGreatDoor
