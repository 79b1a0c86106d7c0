/- A walk: the library's text of a great float. FormatFloat at every float that is a number. -/
import Derived.Test.YtmhgacgneckboaaGreatDoorQz
import Derived.Test.YtmhgacgneckboaaGreatDoorQj
import Derived.Test.YtmhgacgneckboaaGreatDoorQw
import Derived.Test.YtmhgacgneckboaaGreatDoorQl
namespace Go.Proofs.YtmhgacgneckboaaGreatDoor
open Go Go.RowKit Dcp Fta Go.Sort
set_option maxHeartbeats 1000000 in
theorem roundN_any (w : World) (B n : Nat) (z : Int) (c : w.cell? ⟨B, 800, none⟩ = some (.int .i64 n)) (h : (n : Int) ≤ z) :
    Calls Tryz.prog 99 #[.pointer (some ⟨B, 0, none⟩), .int .i64 z] w fun e w' => e = .returned (.tuple #[]) ∧ ∃ q, w' = w.drewN q := by
  have hz : ¬ z < 0 := by omega
  go_enter Tryz.func99, Tryz.ntmps99
  go_wp2_with fail
  refine bodyPost_ret (results_none rfl _ _ _) rfl ?_
  exact ⟨rfl, 0, rfl⟩
/-- A new decimal of the library. -/
theorem zero_dec : Tryz.zeroCells118.toList = List.replicate 800 (.int .u8 0) ++ [.int .i64 0, .int .i64 0, .bool false, .bool false] := by kernel_rfl
theorem new_dec {w w1 : World} (hb : Below w.heap.size w w1) : Dec w (w1.alloc (.cells Tryz.zeroCells118 118)) w1.heap.size (fun _ => 0) 0 0 := by
  have hc : ∀ j, Tryz.zeroCells118[j]? = (List.replicate 800 (Value.int .u8 0) ++ [Value.int .i64 0, .int .i64 0, .bool false, .bool false])[j]? := fun j => by rw [← zero_dec, Array.getElem?_toList]
  refine ⟨(hb.alloc hb.size _), hb.size, by simp, fun j hj => ?_, ?_, ?_, fun j => World.frozen?_alloc_new _ _ _ _, fun _ _ => (by decide)⟩
  · rw [World.cell?_alloc_at _ _ _ _ rfl, hc, List.getElem?_append_left (by rw [List.length_replicate]; exact hj), List.getElem?_replicate, if_pos hj]; rfl
  · rw [World.cell?_alloc_at _ _ _ _ rfl, hc, List.getElem?_append_right (by rw [List.length_replicate]; omega), List.length_replicate]; rfl
  · rw [World.cell?_alloc_at _ _ _ _ rfl, hc, List.getElem?_append_right (by rw [List.length_replicate]; omega), List.length_replicate]; rfl
theorem upL_len (ds : List UInt8) (P : Nat) (hP : P ≤ 400) : 0 < (upL ds P).length ∧ (upL ds P).length ≤ 1000 := by
  unfold upL
  simp only [List.length_append, List.length_take, List.length_drop, rep_len, List.length_cons, List.length_nil]
  omega
theorem dec_dst {w0 w w' : World} {v : Value} {B n : Nat} {D : Nat → Nat} {p : Int} (h : Dec w w' B D n p) (hD : Dst w0 w v [] 0 []) (hn : n ≤ 800) : Dst w0 w' v [] B ((List.range n).map fun j => UInt8.ofNat (D j)) := by
  refine ⟨own_below hD.own h.bel, below_step0 hD.bel h.bel hD.own, fun i hi => ?_, fun _ e => ?_, fun _ => h.lt⟩
  · have hi : i < n := by simpa using hi
    rw [h.byt i (by omega)]
    have := h.small i (by omega)
    simp; omega
  · have h1 := (hD.own.lt B e).2
    have h2 := h.old
    omega
set_option maxHeartbeats 4000000 in
set_option maxRecDepth 100000 in
theorem ftoa_big (w0 w : World) (v : Value) (neg : Bool) (E F : Nat) (hE : EnvF w) (hL : EnvL w) (hD : Dst w0 w v [] 0 []) (h1 : 1072 ≤ E) (h2 : E ≤ 2046) (hF : F < 4503599627370496) :
    Calls Tryz.prog 71 #[v, .float .f64 ((if neg then 9223372036854775808 else 0) + (E * 4503599627370496 + F)), .int .u8 102, .int .i64 3] w fun e w' => (∃ v' l, e = .returned v' ∧ 0 < l.length ∧ l.length ≤ 2000 ∧ w'.ownsRow w0.heap.size 5 1 v' l.length (bc l)) ∧ Below w0.heap.size w0 w' := by
  obtain ⟨b, hb⟩ : ∃ b, (if neg then 9223372036854775808 else 0) + (E * 4503599627370496 + F) = b := ⟨_, rfl⟩
  rw [hb]
  obtain ⟨hq, ⟨c, hc1, hc2, hc3⟩, hm⟩ := bits_parts neg E F b (by omega) hF hb
  have hfb := run_sbits b
  have hE0 : ((E : Int) == 0) = false := by rw [beq_eq_false_iff_ne]; omega
  have hE7 : ((E : Int) == 2047) = false := by rw [beq_eq_false_iff_ne]; omega
  obtain ⟨M, hM⟩ : ∃ M, 4503599627370496 + F = M := ⟨_, rfl⟩
  have hor : bits BinOp.or IntKind.u64 (F : Int) 4503599627370496 = (M : Int) := by
    have := u64_or_nat F 4503599627370496 (by omega) (by decide)
    have hj := nat_join 52 4503599627370496 F (by decide) hF
    rw [Nat.or_comm, hj, hM] at this
    exact this
  have hM1 : 4503599627370496 ≤ M := by omega
  have hM2 : M < 9007199254740992 := by omega
  have hM0 : ((M : Int) == 0) = false := by rw [beq_eq_false_iff_ne]; omega
  obtain ⟨x, hx⟩ : ∃ x : Int, (E : Int) + -1023 = x := ⟨_, rfl⟩
  have hx0 : 0 ≤ x := by omega
  have hx1 : 49 ≤ x := by omega
  have hx2 : x ≤ 1023 := by omega
  have HL := Lib.hid (fun W => log10_any (1 + x) W (by omega) (by omega))
  obtain ⟨q1, hq1⟩ : ∃ q1, (1 + x) * 78913 / 262144 = q1 := ⟨_, rfl⟩
  rw [hq1] at HL
  have hq15 : 15 ≤ q1 := by omega
  have hq16 : q1 ≤ 400 := by omega
  have HE := Lib.hid hE
  have HD := Lib.hid hD
  have HLc := Lib.hid hL
  have hopt := hE.opt
  have HSh : Hid (∀ q D n W, Dec w W q D n 16 → 1 ≤ n → n ≤ 16 → Dgt D 0 n → 49 ≤ D 0 → Calls Tryz.prog 98 #[.pointer (some ⟨q, 0, none⟩), .int .i64 (x - 52)] W (ShEnd w q)) := fun q D n W g1 g2 g3 g4 g5 => by
    have hc : x - 52 = -3 ∨ x - 52 = -2 ∨ x - 52 = -1 ∨ x - 52 = 0 ∨ 1 ≤ x - 52 := by omega
    rcases hc with e | e | e | e | e
    · rw [e]; exact shiftR3_any w W q D n g1 g2 g3 g4 g5
    · rw [e]; exact shiftR2_any w W q D n g1 g2 g3 g4 g5
    · rw [e]; exact shiftR1_any w W q D n g1 g2 g3 g4 g5
    · rw [e]; exact shiftZ_any w W q D n g1 g2 g3
    · obtain ⟨k, hk⟩ : ∃ k : Nat, x - 52 = (k : Int) := ⟨(x - 52).toNat, by omega⟩
      rw [hk]
      exact shiftL_any w W q D n k hL g1 g2 g3 g4 g5 (by omega) (by omega)
  clear hE hD hL hb hM hF hq1
  cases neg with
  | false =>
    have hq : (b : Int) / 9223372036854775808 = 0 := hq
    go_enter Tryz.func71, Tryz.ntmps71
    go_wp2_with fail
    go_quiet (fail)
    have HB1 := Lib.hid (below_drews (w := w) nq)
    have HE1 := Lib.hid (HE.out.drewN nq)
    have hopt1 := HE1.out.opt
    generalize w.drewN nq = w1 at *
    go_wp2_with fail
    refine (HL.out _).mono ?_
    rintro e w2 ⟨rfl, rfl⟩
    have HND := Lib.hid (new_dec HB1.out)
    obtain ⟨q, hqq⟩ : ∃ q, w1.heap.size = q := ⟨_, rfl⟩
    have HQQ := Lib.hid hqq
    clear hqq
    rw [HQQ.out] at HND
    generalize hwo : w1.alloc (.cells Tryz.zeroCells118 118) = wo at HND
    have HWO := Lib.hid hwo
    clear hwo
    have HC1 := Lib.hid (assign_any w wo q _ M 0 0 HND.out (by omega) (by omega))
    go_wp2_with fail
    rw [HWO.out, HQQ.out]
    refine HC1.out.mono ?_
    rintro e w3 ⟨rfl, D1, n1, g1, g2, g3, g4, g5⟩
    have HC2 := Lib.hid (HSh.out q D1 n1 w3 g1 g2 g3 g4 g5)
    clear HC1 HND g1 g4 HSh
    unfold ShEnd at HC2
    go_wp2_with fail
    refine HC2.out.mono ?_
    rintro e w4 ⟨rfl, D2, n2, p2, g1, g2, g3, g4, g5⟩
    have HDe := Lib.hid g1
    have cnd := g1.nd
    have cdp := g1.dp
    have HC3 := Lib.hid (roundN_any w4 q n2 ((p2 : Int) + 3) cnd (by omega))
    clear HC2 g1
    go_wp2_with fail
    refine HC3.out.mono ?_
    rintro e w5' ⟨rfl, q5, rfl⟩
    have HDf := Lib.hid (HDe.out.drewN q5)
    have cnd5 := HDf.out.nd
    have cdp5 := HDf.out.dp
    obtain ⟨ds, hds⟩ : ∃ ds, ((List.range n2).map fun j => UInt8.ofNat (D2 j)) = ds := ⟨_, rfl⟩
    have hdl : ds.length = n2 := by rw [← hds]; simp
    have hdst := dec_dst HDf.out.drew HD.out (by omega)
    rw [hds] at hdst
    have HC4 := Lib.hid (efg_upP w0 (w4.drewN q5).drew v [] ds q 800 p2 false hdst (by simp) (by omega) (by omega) g4 (by omega))
    rw [hdl] at HC4
    have HLn := Lib.hid (upL_len ds p2 g5)
    clear HC3 HDe cnd cdp hds hdst hdl HDf
    generalize w4.drewN q5 = w5 at *
    generalize upL ds p2 = L at *
    go_wp2_with fail
    go_region_with (go_at_call 90; refine HC4.out.mono ?_; rintro e w6 ⟨v6, rfl, hd6⟩)
    all_goals
      have HR := Lib.hid hd6.own
      have HB6 := Lib.hid hd6.bel
      clear hd6 HC4
      go_wp2_with fail
      go_ret
      exact ⟨⟨_, _, rfl, (by have := HLn.out.1; first | (simp; done) | (simp; omega)), (by have := HLn.out.2; simp; omega), HR.out⟩, HB6.out⟩
  | true =>
    have hq : (b : Int) / 9223372036854775808 = 1 := hq
    go_enter Tryz.func71, Tryz.ntmps71
    go_wp2_with fail
    go_quiet (fail)
    have HB1 := Lib.hid (below_drews (w := w) nq)
    have HE1 := Lib.hid (HE.out.drewN nq)
    have hopt1 := HE1.out.opt
    generalize w.drewN nq = w1 at *
    go_wp2_with fail
    refine (HL.out _).mono ?_
    rintro e w2 ⟨rfl, rfl⟩
    have HND := Lib.hid (new_dec HB1.out)
    obtain ⟨q, hqq⟩ : ∃ q, w1.heap.size = q := ⟨_, rfl⟩
    have HQQ := Lib.hid hqq
    clear hqq
    rw [HQQ.out] at HND
    generalize hwo : w1.alloc (.cells Tryz.zeroCells118 118) = wo at HND
    have HWO := Lib.hid hwo
    clear hwo
    have HC1 := Lib.hid (assign_any w wo q _ M 0 0 HND.out (by omega) (by omega))
    go_wp2_with fail
    rw [HWO.out, HQQ.out]
    refine HC1.out.mono ?_
    rintro e w3 ⟨rfl, D1, n1, g1, g2, g3, g4, g5⟩
    have HC2 := Lib.hid (HSh.out q D1 n1 w3 g1 g2 g3 g4 g5)
    clear HC1 HND g1 g4 HSh
    unfold ShEnd at HC2
    go_wp2_with fail
    refine HC2.out.mono ?_
    rintro e w4 ⟨rfl, D2, n2, p2, g1, g2, g3, g4, g5⟩
    have HDe := Lib.hid g1
    have cnd := g1.nd
    have cdp := g1.dp
    have HC3 := Lib.hid (roundN_any w4 q n2 ((p2 : Int) + 3) cnd (by omega))
    clear HC2 g1
    go_wp2_with fail
    refine HC3.out.mono ?_
    rintro e w5' ⟨rfl, q5, rfl⟩
    have HDf := Lib.hid (HDe.out.drewN q5)
    have cnd5 := HDf.out.nd
    have cdp5 := HDf.out.dp
    obtain ⟨ds, hds⟩ : ∃ ds, ((List.range n2).map fun j => UInt8.ofNat (D2 j)) = ds := ⟨_, rfl⟩
    have hdl : ds.length = n2 := by rw [← hds]; simp
    have hdst := dec_dst HDf.out.drew HD.out (by omega)
    rw [hds] at hdst
    have HC4 := Lib.hid (efg_upN w0 (w4.drewN q5).drew v [] ds q 800 p2 false hdst (by simp) (by omega) (by omega) g4 (by omega))
    rw [hdl] at HC4
    have HLn := Lib.hid (upL_len ds p2 g5)
    clear HC3 HDe cnd cdp hds hdst hdl HDf
    generalize w4.drewN q5 = w5 at *
    generalize upL ds p2 = L at *
    go_wp2_with fail
    go_region_with (go_at_call 90; refine HC4.out.mono ?_; rintro e w6 ⟨v6, rfl, hd6⟩)
    all_goals
      have HR := Lib.hid hd6.own
      have HB6 := Lib.hid hd6.bel
      clear hd6 HC4
      go_wp2_with fail
      go_ret
      exact ⟨⟨_, _, rfl, (by have := HLn.out.1; first | (simp; done) | (simp; omega)), (by have := HLn.out.2; simp; omega), HR.out⟩, HB6.out⟩
end Go.Proofs.YtmhgacgneckboaaGreatDoor

namespace Go.Proofs.YtmhgacgneckboaaGreatDoor
open Go Go.RowKit Dcp Fta Go.Sort Mtr
def FtoaAny (bits : Nat) (w : World) : Prop := ∀ (w0 w1 : World) (v : Value), Below w.heap.size w w1 → Dst w0 w1 v [] 0 [] → Calls Tryz.prog 71 #[v, .float .f64 bits, .int .u8 102, .int .i64 3] w1 fun e w' => (∃ v' l, e = .returned v' ∧ 0 < l.length ∧ l.length ≤ 2000 ∧ w'.ownsRow w0.heap.size 5 1 v' l.length (bc l)) ∧ Below w0.heap.size w0 w'
theorem fix3_len (neg : Bool) (d : Nat) (h : d < 18446744073709551616) : (sgn neg ++ fix3 d).length ≤ 2000 := by
  have h1 := Lib.nDigits_le20 d h
  have h2 := Lib.decDigits_length d
  have h3 : (sgn neg).length ≤ 1 := by cases neg <;> simp [sgn]
  unfold fix3
  split
  · simp only [List.length_append, List.length_take, List.length_drop, List.length_cons, List.length_nil]; omega
  · simp only [List.length_append, rep_len, List.length_cons, List.length_nil]; omega
theorem any_of_good {bits d : Nat} {neg : Bool} {w : World} (h : FtoaGood bits d neg w) (hd : d < 18446744073709551616) : FtoaAny bits w := fun w0 w1 v hb hD => (h w0 w1 v hb hD).mono fun _ _ ⟨⟨v', he, ho⟩, hb2⟩ => ⟨⟨v', _, he, fix3_pos neg d, fix3_len neg d hd, ho⟩, hb2⟩
theorem ftoa_fin (neg : Bool) (E F : Nat) (w : World) (hE : EnvF w) (hL : EnvL w) (h2 : E ≤ 2046) (hF : F < 4503599627370496) : FtoaAny ((if neg then 9223372036854775808 else 0) + (E * 4503599627370496 + F)) w := by
  have hc : (E = 0 ∧ F = 0) ∨ (E = 0 ∧ 1 ≤ F) ∨ (1 ≤ E ∧ E ≤ 1009) ∨ (1010 ≤ E ∧ E ≤ 1030) ∨ (1031 ≤ E ∧ E ≤ 1051) ∨ (1052 ≤ E ∧ E ≤ 1071) ∨ 1072 ≤ E := by omega
  rcases hc with ⟨rfl, rfl⟩ | ⟨h0, hF0⟩ | ⟨a, b⟩ | ⟨a, b⟩ | ⟨a, b⟩ | ⟨a, b⟩ | a
  · cases neg with
    | false => exact any_of_good (d := 0) (neg := false) (fun w0 w1 v hb hD => ftoa_zeroP w0 w1 v hD) (by decide)
    | true => exact any_of_good (d := 0) (neg := true) (fun w0 w1 v hb hD => ftoa_zeroN w0 w1 v hD) (by decide)
  · exact any_of_good (d := 0) (neg := neg) (fun w0 w1 v hb hD => ftoa_sub w0 w1 v neg E F (hE.below hb) hD h0 hF0 hF) (by decide)
  · exact any_of_good (d := 0) (neg := neg) (fun w0 w1 v hb hD => ftoa_tiny w0 w1 v neg E F (hE.below hb) hD a b hF) (by decide)
  · obtain ⟨d, h, hd⟩ := fast_0 E F w hE hF a b neg
    exact any_of_good h hd
  · obtain ⟨d, h, hd⟩ := fast_1 E F w hE hF a b neg
    exact any_of_good h hd
  · obtain ⟨d, h, hd⟩ := fast_2 E F w hE hF a b neg
    exact any_of_good h hd
  · exact fun w0 w1 v hb hD => ftoa_big w0 w1 v neg E F (hE.below hb) (hL.below hb) hD a h2 hF
theorem ftoa_bits (b : Nat) (w : World) (hE : EnvF w) (hL : EnvL w) (hb : b < 18446744073709551616) (hr : rungB b < 9218868437227405312) : FtoaAny b w := by
  obtain ⟨r, hr1, hr2, h⟩ := split_bits b hb
  rw [hr2] at hr
  have e1 : r = r / 4503599627370496 * 4503599627370496 + r % 4503599627370496 := by omega
  rcases h with ⟨h, -⟩ | ⟨h, -⟩
  · have := ftoa_fin false (r / 4503599627370496) (r % 4503599627370496) w hE hL (by omega) (Nat.mod_lt _ (by decide))
    rw [if_neg (by decide), Nat.zero_add, ← e1, ← h] at this
    exact this
  · have := ftoa_fin true (r / 4503599627370496) (r % 4503599627370496) w hE hL (by omega) (Nat.mod_lt _ (by decide))
    rw [if_pos rfl, ← e1, ← h] at this
    exact this
theorem format_fin (b : Nat) (w : World) (hG : FtoaAny b w) :
    Calls Tryz.prog 51 #[.float .f64 b, .int .u8 102, .int .i64 3, .int .i64 64] w fun e w' => (∃ l : List UInt8, e = .returned (.string ⟨l.toArray⟩) ∧ l.length ≤ 2000) ∧ Below w.heap.size w w' := by
  obtain ⟨wo, hwo⟩ : ∃ wo, w.alloc (.cells (Array.replicate 24 (.int .u8 0)) 5) = wo := ⟨_, rfl⟩
  have hbo : Below w.heap.size w wo := by rw [← hwo]; exact (Below.refl _ _).alloc (Nat.le_refl _) _
  have hD : Dst w wo (.slice (some ⟨w.heap.size, 0, none⟩) 0 24) [] 0 [] :=
    ⟨by rw [← hwo]; exact World.ownsRow_made w _ 24 (Nat.le_refl _) (by unfold maxLen; omega) (by simp), hbo, fun i hi => by simp at hi, fun h => absurd rfl h, fun h => absurd rfl h⟩
  have HC := Lib.hid (hG w wo _ hbo hD)
  have i1 : max (7 : Int) 24 = 24 := by decide
  have hmk : (Instr.makeSlice 70 (.int .i64 0) (.int .i64 24)).run Tryz.prog w = .ok (.slice (some ⟨w.heap.size, 0, none⟩) 0 24) wo := by rw [← hwo]; kernel_rfl
  clear hG hD hwo hbo
  go_enter Tryz.func51, Tryz.ntmps51
  go_wp2_with fail
  refine HC.out.mono ?_
  rintro e w2 ⟨⟨v2, L, rfl, hl1, hl2, hown⟩, hb2⟩
  have hcv := conv_own hown hl1
  go_wp2_with fail
  go_ret
  exact ⟨⟨L, rfl, hl2⟩, hb2⟩
theorem format_all (b : Nat) (w : World) (hE : EnvF w) (hL : EnvL w) (hb : b < 18446744073709551616) (hr : rungB b < 9218868437227405312) :
    Calls Tryz.prog 36 #[.float .f64 b, .int .u8 102, .int .i64 3, .int .i64 64] w fun e w' => (∃ l : List UInt8, e = .returned (.string ⟨l.toArray⟩) ∧ l.length ≤ 2000) ∧ Below w.heap.size w w' := by
  have HC := Lib.hid (format_fin b w (ftoa_bits b w hE hL hb hr))
  clear hE hL hb hr
  go_enter Tryz.func36, Tryz.ntmps36
  go_wp2_with fail
  refine HC.out.mono ?_
  rintro e w2 ⟨⟨l, rfl, hl⟩, hb2⟩
  go_wp2_with fail
  go_ret
  exact ⟨⟨l, rfl, hl⟩, hb2⟩
end Go.Proofs.YtmhgacgneckboaaGreatDoor
