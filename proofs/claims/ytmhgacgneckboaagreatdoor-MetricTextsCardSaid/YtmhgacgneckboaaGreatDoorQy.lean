/- A walk: the library's decimals, shifted to the right by 1. A walk: the library's decimals, shifted to the right by 2. A walk: the library's decimals, shifted to the right by 3. -/
import Derived.Test.YtmhgacgneckboaaGreatDoorQx
namespace Go.Proofs.YtmhgacgneckboaaGreatDoor
open Go Go.RowKit Dcp Go.Sort Adr
set_option maxHeartbeats 4000000 in
set_option maxRecDepth 100000 in
theorem right1_any (w0 w : World) (B : Nat) (D : Nat → Nat) (n : Nat) (p : Nat) (h : Dec w0 w B D n p) (hn : 1 ≤ n) (hn2 : n ≤ 20) (hnp : n ≤ p) (hp : 16 ≤ p) (hp2 : p ≤ 20) (hD : Dgt D 0 n) (h0 : 49 ≤ D 0) :
    Calls Tryz.prog 132 #[.pointer (some ⟨B, 0, none⟩), .int .u64 1] w fun e w' => e = .returned (.tuple #[]) ∧ ∃ (D' : Nat → Nat) (n' p' : Nat), Dec w0 w' B D' n' p' ∧ 1 ≤ n' ∧ n' ≤ p' + 3 ∧ 1 ≤ p' ∧ p' ≤ 20 := by
  have H0 := Lib.hid h
  have HDg := Lib.hid hD
  clear h hD
  go_enter Tryz.func132, Tryz.ntmps132
  go_wp2_with fail
  go_loopw [4, 6] (fun v4 v6 wr => ∃ r m : Nat, v4 = .int .i64 r ∧ v6 = .int .u64 m ∧ ((r = 0 ∧ m = 0) ∨ (r = 1 ∧ 1 ≤ m ∧ m ≤ 9) ∨ (r = 2 ∧ 10 ≤ m ∧ m < 20)) ∧ r ≤ 2 ∧ wr = w) (fun v4 _ _ => 3 - (intOf v4).toNat)
  case atStart => exact ⟨0, 0, rfl, rfl, Or.inl ⟨rfl, rfl⟩, by omega, rfl⟩
  case round =>
    obtain ⟨r, m, rfl, rfl, hrm, hr2, rfl⟩ := hrel
    have H1 := H0
    clear H0
    have cnd := H1.out.nd
    rcases hrm with ⟨rfl, rfl⟩ | ⟨rfl, hm1, hm2⟩ | ⟨rfl, hm1, hm2⟩
    · have hd0 := HDg.out 0 (Nat.le_refl _) (by omega)
      obtain ⟨d, hd⟩ : ∃ d, D 0 = d + 48 := ⟨D 0 - 48, by omega⟩
      have hd9 : d ≤ 9 := by omega
      have hd1 : 1 ≤ d := by omega
      have c1 : wr.cell? ⟨B, 0, none⟩ = some (.int .u8 ((d : Int) + 48)) := by
        have := H1.out.byt 0 (by omega)
        rw [hd] at this
        simpa using this
      have hn0 : (0 : Int) < (n : Int) := by omega
      have hn0' : ¬ (n : Int) ≤ 0 := by omega
      clear hd hd0 h0
      go_wp2_with fail
      go_roundw
      case rel => exact ⟨1, d, by go_num, (by first | rfl | (congr 1; omega)), Or.inr (Or.inl ⟨rfl, hd1, hd9⟩), by omega, by first | rfl | trivial⟩
      case measure => simp [intOf]
    · by_cases hmk : m < 2
      · have hsh : (m : Int) / 2 = 0 := by omega
        by_cases hn1 : 1 < n
        · have hd0 := HDg.out 1 (Nat.zero_le _) (by omega)
          obtain ⟨d, hd⟩ : ∃ d, D 1 = d + 48 := ⟨D 1 - 48, by omega⟩
          have hd9 : d ≤ 9 := by omega
          have c1 : wr.cell? ⟨B, 1, none⟩ = some (.int .u8 ((d : Int) + 48)) := by
            have := H1.out.byt 1 (by omega)
            rw [hd] at this
            simpa using this
          have hn0 : (1 : Int) < (n : Int) := by omega
          have hn0' : ¬ (n : Int) ≤ 1 := by omega
          clear hd hd0 h0
          go_wp2_with fail
          go_roundw
          case rel => exact ⟨2, m * 10 + d, by go_num, (by congr 1; omega), Or.inr (Or.inr ⟨rfl, by omega, by omega⟩), by omega, by first | rfl | trivial⟩
          case measure => simp [intOf]
        · have hge : (n : Int) ≤ 1 := by omega
          have hm0 : ((m : Int) == 0) = false := by rw [beq_eq_false_iff_ne]; omega
          have hsh2 : ((m : Int) * 10) / 2 ≠ 0 := by omega
          have hsh3 : (((m : Int) * 10) / 2 == 0) = false := by rw [beq_eq_false_iff_ne]; exact hsh2
          go_wp2_with fail
          go_loopw [4, 6] (fun v4 v6 wx => ((v4 = .int .i64 1 ∧ v6 = .int .u64 m) ∨ (v4 = .int .i64 2 ∧ v6 = .int .u64 ((m * 10 : Nat) : Int))) ∧ wx = wr) (fun v4 _ _ => 2 - (intOf v4).toNat)
          case atStart => exact ⟨Or.inl ⟨rfl, rfl⟩, rfl⟩
          case round =>
            obtain ⟨⟨rfl, rfl⟩ | ⟨rfl, rfl⟩, rfl⟩ := hrel
            · go_wp2_with fail
              go_roundw
              case rel => exact ⟨Or.inr ⟨by go_num, (by congr 1)⟩, by first | rfl | trivial⟩
              case measure => simp [intOf]
            · have hmm := hm1
              obtain ⟨m3, hm3⟩ : ∃ m3, m * 10 = m3 := ⟨_, rfl⟩
              rw [hm3]
              have hm4 : 2 ≤ m3 := by omega
              have hm5 : m3 < 20 := by omega
              have hsh4 : (m3 : Int) / 2 ≠ 0 := by omega
              have hsh5 : ((m3 : Int) / 2 == 0) = false := by rw [beq_eq_false_iff_ne]; exact hsh4
              clear hsh hsh2 hsh3 hm0 hm3 hm1 hm2 hmk hmm
              have hpr : (p : Int) - 1 = ((p - 1 : Nat) : Int) := by omega
              have HP := Lib.hid (H1.out.setP ((p - 1 : Nat) : Int))
              obtain ⟨pp, hpp⟩ : ∃ pp, p - 1 = pp := ⟨_, rfl⟩
              rw [hpp] at HP hpr
              have cdp := H1.out.dp
              have fdp := H1.out.fr 801
              go_wp2_with fail
              generalize wr.setCell ⟨B, 801, none⟩ (.int .i64 (pp : Int)) = w2 at *
              clear H1 cdp fdp
              go_loopw [4, 5, 6] (fun v4 v5 v6 wr => ∃ (j m : Nat) (E : Nat → Nat), v4 = .int .i64 (((2 + j : Nat)) : Int) ∧ v5 = .int .i64 j ∧ v6 = .int .u64 m ∧ m < 20 ∧ (j = 0 ∨ 2 + j ≤ n) ∧ Hid (Dec w0 wr B E n pp) ∧ Hid (∀ i, j ≤ i → E i = D i) ∧ Hid ((j = 0 → 2 ≤ m) ∧ (1 ≤ j → 49 ≤ E 0))) (fun v4 _ _ _ => n - (intOf v4).toNat)
              case atStart => exact ⟨0, _, D, by simp, rfl, rfl, by omega, by omega, HP, (fun _ _ => rfl), ⟨fun _ => by omega, fun h => absurd h (by omega)⟩⟩
              case round =>
                obtain ⟨j, m, E, rfl, rfl, rfl, hmq, hj, H1, HS, HL⟩ := hrel
                have cnd := H1.out.nd
                by_cases hlt : 2 + j < n
                · obtain ⟨x, hx⟩ : ∃ x, 2 + j = x := ⟨_, rfl⟩
                  rw [hx] at hlt ⊢
                  have hdx := HDg.out x (Nat.zero_le _) hlt
                  obtain ⟨d, hd⟩ : ∃ d, D x = d + 48 := ⟨D x - 48, by omega⟩
                  have hd9 : d ≤ 9 := by omega
                  have c1 : wr.cell? ⟨B, x, none⟩ = some (.int .u8 ((d : Int) + 48)) := by
                    have := H1.out.byt x (by omega)
                    rw [HS.out x (by omega), hd] at this
                    simpa using this
                  have hj8 : j < 800 := by omega
                  have c2 := H1.out.byt j hj8
                  have f2 := H1.out.fr j
                  obtain ⟨a, ha⟩ : ∃ a, m / 2 = a := ⟨_, rfl⟩
                  obtain ⟨b, hb⟩ : ∃ b, m % 2 = b := ⟨_, rfl⟩
                  have hqi : (m : Int) / 2 = (a : Int) := by omega
                  have hri : bits BinOp.and IntKind.u64 (m : Int) 1 = (b : Int) := by
                    have := u64_and_nat m 1 (by omega) (by decide)
                    rw [show m &&& 1 = m % 2 from Nat.and_two_pow_sub_one_eq_mod m 1, hb] at this
                    exact this
                  have ha9 : a ≤ 9 := by omega
                  have hb9 : b < 2 := by omega
                  have H2' : Dec w0 (wr.setCell ⟨B, j, none⟩ (.int .u8 ((a : Int) + 48))) B (upd E j (a + 48)) n pp := by
                    have := H1.out.set hj8 (a + 48) (by omega)
                    simpa using this
                  have HS2 : Hid (∀ i, j + 1 ≤ i → upd E j (a + 48) i = D i) := fun i hi => by rw [upd_other (by omega)]; exact HS.out i (by omega)
                  have HL2 : Hid ((j + 1 = 0 → 2 ≤ b * 10 + d) ∧ (1 ≤ j + 1 → 49 ≤ upd E j (a + 48) 0)) := ⟨fun h => absurd h (by omega), fun _ => by
                    rcases Nat.eq_zero_or_pos j with h | h
                    · have := HL.out.1 h
                      subst h
                      rw [upd_same]; omega
                    · rw [upd_other (by omega)]; exact HL.out.2 h⟩
                  have H2 := Lib.hid H2'
                  have hxn : (x : Int) < (n : Int) := by omega
                  have hx8 : (x : Int) < 800 := by omega
                  generalize E j = y at *
                  have hxj := Lib.hid hx
                  clear ha hb hd hdx H2' HL HS hx
                  go_wp2_with fail
                  go_roundw
                  case rel => exact ⟨j + 1, b * 10 + d, _, (by congr 1; have := hxj.out; omega), by go_num, (by congr 1; omega), by omega, Or.inr (by have := hxj.out; omega), H2, HS2, HL2⟩
                  case measure => have := hxj.out; simp [intOf]; omega
                · have HJ1 : Hid (j = 0 ∨ j + 2 ≤ n) := by show _ ∨ _; omega
                  have hxn : ¬ (((2 + j : Nat)) : Int) < (n : Int) := by omega
                  obtain ⟨x, hx⟩ : ∃ x, 2 + j = x := ⟨_, rfl⟩
                  rw [hx] at hxn ⊢
                  have hj30 : j ≤ 20 := by omega
                  clear hj hx hlt
                  go_wp2_with fail
                  go_loopw [5, 6] (fun v5 v6 wr => ∃ (i t m : Nat) (E : Nat → Nat), v5 = .int .i64 t ∧ v6 = .int .u64 m ∧ m < 20 ∧ i ≤ 2 ∧ Hid (t = j + i) ∧ t ≤ 30 ∧ Hid ((1 ≤ i → m % 2 = 0) ∧ (2 ≤ i → m % 4 = 0) ∧ (3 ≤ i → m % 8 = 0) ∧ (2 ≤ i → m = 0)) ∧ Hid (Dec w0 wr B E n pp) ∧ Hid ((t = 0 → 2 ≤ m) ∧ (1 ≤ t → 49 ≤ E 0))) (fun v5 _ _ => j + 2 - (intOf v5).toNat)
                  case atStart => exact ⟨0, j, m, E, rfl, rfl, hmq, by omega, rfl, by omega, ⟨fun h => absurd h (by omega), fun h => absurd h (by omega), fun h => absurd h (by omega), fun h => absurd h (by omega)⟩, H1, HL⟩
                  case round =>
                    clear H1 HL HS hmq cnd
                    obtain ⟨i, t, m, E, rfl, rfl, hmq, hi, ht, ht30, HM, H1, HL⟩ := hrel
                    rcases Nat.eq_zero_or_pos m with hm0 | hm0
                    · subst hm0
                      have ht1 : 1 ≤ t := by
                        rcases Nat.eq_zero_or_pos t with h | h
                        · have := HL.out.1 h; omega
                        · exact h
                      have cnd := H1.out.nd
                      have fnd := H1.out.fr 800
                      have HT := Lib.hid (trimD_any w0 _ B E t pp (H1.out.setN t) ht1 (by omega) (HL.out.2 ht1))
                      go_wp2_with fail
                      refine HT.out.mono ?_
                      rintro e w3 ⟨rfl, m2, hm1, hm2, h4⟩
                      have HD4 := Lib.hid h4
                      clear h4 HT
                      go_wp2_with fail
                      go_end0
                      exact ⟨rfl, E, m2, pp, HD4.out, hm1, (by have := ht.out; have := HJ1.out; omega), by omega, by omega⟩
                    · have hm1 : (0 : Int) < (m : Int) := by omega
                      have hik : i ≤ 1 := by
                        rcases Nat.lt_or_ge i 2 with h | h
                        · omega
                        · have := HM.out.2.2.2 h; omega
                      have ht8 : t < 800 := by omega
                      have ht8i : (t : Int) < 800 := by omega
                      have c2 := H1.out.byt t ht8
                      have f2 := H1.out.fr t
                      obtain ⟨a, ha⟩ : ∃ a, m / 2 = a := ⟨_, rfl⟩
                      obtain ⟨b, hb⟩ : ∃ b, m % 2 = b := ⟨_, rfl⟩
                      have hqi : (m : Int) / 2 = (a : Int) := by omega
                      have hri : bits BinOp.and IntKind.u64 (m : Int) 1 = (b : Int) := by
                        have := u64_and_nat m 1 (by omega) (by decide)
                        rw [show m &&& 1 = m % 2 from Nat.and_two_pow_sub_one_eq_mod m 1, hb] at this
                        exact this
                      have ha9 : a ≤ 9 := by omega
                      have hb9 : b < 2 := by omega
                      have H2' : Dec w0 (wr.setCell ⟨B, t, none⟩ (.int .u8 ((a : Int) + 48))) B (upd E t (a + 48)) n pp := by
                        have := H1.out.set ht8 (a + 48) (by omega)
                        simpa using this
                      have HL2 : Hid ((t + 1 = 0 → 2 ≤ b * 10) ∧ (1 ≤ t + 1 → 49 ≤ upd E t (a + 48) 0)) := ⟨fun h => absurd h (by omega), fun _ => by
                        rcases Nat.eq_zero_or_pos t with h | h
                        · have := HL.out.1 h
                          subst h
                          rw [upd_same]; omega
                        · rw [upd_other (by omega)]; exact HL.out.2 h⟩
                      have HM2 : Hid ((1 ≤ i + 1 → b * 10 % 2 = 0) ∧ (2 ≤ i + 1 → b * 10 % 4 = 0) ∧ (3 ≤ i + 1 → b * 10 % 8 = 0) ∧ (2 ≤ i + 1 → b * 10 = 0)) := by
                        obtain ⟨g1, g2, g3, g4⟩ := HM.out
                        refine ⟨fun h => ?_, fun h => ?_, fun h => ?_, fun h => ?_⟩ <;> omega
                      have H2 := Lib.hid H2'
                      have ht2 : Hid (t + 1 = j + (i + 1)) := by have := ht.out; show _ = _; omega
                      have ht3 : t ≤ j + 1 := by have := ht.out; omega
                      generalize E t = y at *
                      clear ha hb H2' HL HM ht
                      go_wp2_with fail
                      go_roundw
                      case rel => exact ⟨i + 1, t + 1, b * 10, _, by go_num, (by congr 1), by omega, by omega, ht2, by omega, HM2, H2, HL2⟩
                      case measure => simp [intOf]; omega
      · have hsh : (m : Int) / 2 ≠ 0 := by omega
        have hsh2 : ((m : Int) / 2 == 0) = false := by rw [beq_eq_false_iff_ne]; exact hsh
        have hmk2 : 2 ≤ m := by omega
        have hm3 : m < 20 := by omega
        clear hmk
        have hpr : (p : Int) - 0 = ((p - 0 : Nat) : Int) := by omega
        have HP := Lib.hid (H1.out.setP ((p - 0 : Nat) : Int))
        obtain ⟨pp, hpp⟩ : ∃ pp, p - 0 = pp := ⟨_, rfl⟩
        rw [hpp] at HP hpr
        have cdp := H1.out.dp
        have fdp := H1.out.fr 801
        go_wp2_with fail
        generalize wr.setCell ⟨B, 801, none⟩ (.int .i64 (pp : Int)) = w2 at *
        clear H1 cdp fdp
        go_loopw [4, 5, 6] (fun v4 v5 v6 wr => ∃ (j m : Nat) (E : Nat → Nat), v4 = .int .i64 (((1 + j : Nat)) : Int) ∧ v5 = .int .i64 j ∧ v6 = .int .u64 m ∧ m < 20 ∧ (j = 0 ∨ 1 + j ≤ n) ∧ Hid (Dec w0 wr B E n pp) ∧ Hid (∀ i, j ≤ i → E i = D i) ∧ Hid ((j = 0 → 2 ≤ m) ∧ (1 ≤ j → 49 ≤ E 0))) (fun v4 _ _ _ => n - (intOf v4).toNat)
        case atStart => exact ⟨0, _, D, by simp, rfl, rfl, by omega, by omega, HP, (fun _ _ => rfl), ⟨fun _ => by omega, fun h => absurd h (by omega)⟩⟩
        case round =>
          obtain ⟨j, m, E, rfl, rfl, rfl, hmq, hj, H1, HS, HL⟩ := hrel
          have cnd := H1.out.nd
          by_cases hlt : 1 + j < n
          · obtain ⟨x, hx⟩ : ∃ x, 1 + j = x := ⟨_, rfl⟩
            rw [hx] at hlt ⊢
            have hdx := HDg.out x (Nat.zero_le _) hlt
            obtain ⟨d, hd⟩ : ∃ d, D x = d + 48 := ⟨D x - 48, by omega⟩
            have hd9 : d ≤ 9 := by omega
            have c1 : wr.cell? ⟨B, x, none⟩ = some (.int .u8 ((d : Int) + 48)) := by
              have := H1.out.byt x (by omega)
              rw [HS.out x (by omega), hd] at this
              simpa using this
            have hj8 : j < 800 := by omega
            have c2 := H1.out.byt j hj8
            have f2 := H1.out.fr j
            obtain ⟨a, ha⟩ : ∃ a, m / 2 = a := ⟨_, rfl⟩
            obtain ⟨b, hb⟩ : ∃ b, m % 2 = b := ⟨_, rfl⟩
            have hqi : (m : Int) / 2 = (a : Int) := by omega
            have hri : bits BinOp.and IntKind.u64 (m : Int) 1 = (b : Int) := by
              have := u64_and_nat m 1 (by omega) (by decide)
              rw [show m &&& 1 = m % 2 from Nat.and_two_pow_sub_one_eq_mod m 1, hb] at this
              exact this
            have ha9 : a ≤ 9 := by omega
            have hb9 : b < 2 := by omega
            have H2' : Dec w0 (wr.setCell ⟨B, j, none⟩ (.int .u8 ((a : Int) + 48))) B (upd E j (a + 48)) n pp := by
              have := H1.out.set hj8 (a + 48) (by omega)
              simpa using this
            have HS2 : Hid (∀ i, j + 1 ≤ i → upd E j (a + 48) i = D i) := fun i hi => by rw [upd_other (by omega)]; exact HS.out i (by omega)
            have HL2 : Hid ((j + 1 = 0 → 2 ≤ b * 10 + d) ∧ (1 ≤ j + 1 → 49 ≤ upd E j (a + 48) 0)) := ⟨fun h => absurd h (by omega), fun _ => by
              rcases Nat.eq_zero_or_pos j with h | h
              · have := HL.out.1 h
                subst h
                rw [upd_same]; omega
              · rw [upd_other (by omega)]; exact HL.out.2 h⟩
            have H2 := Lib.hid H2'
            have hxn : (x : Int) < (n : Int) := by omega
            have hx8 : (x : Int) < 800 := by omega
            generalize E j = y at *
            have hxj := Lib.hid hx
            clear ha hb hd hdx H2' HL HS hx
            go_wp2_with fail
            go_roundw
            case rel => exact ⟨j + 1, b * 10 + d, _, (by congr 1; have := hxj.out; omega), by go_num, (by congr 1; omega), by omega, Or.inr (by have := hxj.out; omega), H2, HS2, HL2⟩
            case measure => have := hxj.out; simp [intOf]; omega
          · have HJ1 : Hid (j = 0 ∨ j + 1 ≤ n) := by show _ ∨ _; omega
            have hxn : ¬ (((1 + j : Nat)) : Int) < (n : Int) := by omega
            obtain ⟨x, hx⟩ : ∃ x, 1 + j = x := ⟨_, rfl⟩
            rw [hx] at hxn ⊢
            have hj30 : j ≤ 20 := by omega
            clear hj hx hlt
            go_wp2_with fail
            go_loopw [5, 6] (fun v5 v6 wr => ∃ (i t m : Nat) (E : Nat → Nat), v5 = .int .i64 t ∧ v6 = .int .u64 m ∧ m < 20 ∧ i ≤ 2 ∧ Hid (t = j + i) ∧ t ≤ 30 ∧ Hid ((1 ≤ i → m % 2 = 0) ∧ (2 ≤ i → m % 4 = 0) ∧ (3 ≤ i → m % 8 = 0) ∧ (2 ≤ i → m = 0)) ∧ Hid (Dec w0 wr B E n pp) ∧ Hid ((t = 0 → 2 ≤ m) ∧ (1 ≤ t → 49 ≤ E 0))) (fun v5 _ _ => j + 2 - (intOf v5).toNat)
            case atStart => exact ⟨0, j, m, E, rfl, rfl, hmq, by omega, rfl, by omega, ⟨fun h => absurd h (by omega), fun h => absurd h (by omega), fun h => absurd h (by omega), fun h => absurd h (by omega)⟩, H1, HL⟩
            case round =>
              clear H1 HL HS hmq cnd
              obtain ⟨i, t, m, E, rfl, rfl, hmq, hi, ht, ht30, HM, H1, HL⟩ := hrel
              rcases Nat.eq_zero_or_pos m with hm0 | hm0
              · subst hm0
                have ht1 : 1 ≤ t := by
                  rcases Nat.eq_zero_or_pos t with h | h
                  · have := HL.out.1 h; omega
                  · exact h
                have cnd := H1.out.nd
                have fnd := H1.out.fr 800
                have HT := Lib.hid (trimD_any w0 _ B E t pp (H1.out.setN t) ht1 (by omega) (HL.out.2 ht1))
                go_wp2_with fail
                refine HT.out.mono ?_
                rintro e w3 ⟨rfl, m2, hm1, hm2, h4⟩
                have HD4 := Lib.hid h4
                clear h4 HT
                go_wp2_with fail
                go_end0
                exact ⟨rfl, E, m2, pp, HD4.out, hm1, (by have := ht.out; have := HJ1.out; omega), by omega, by omega⟩
              · have hm1 : (0 : Int) < (m : Int) := by omega
                have hik : i ≤ 1 := by
                  rcases Nat.lt_or_ge i 2 with h | h
                  · omega
                  · have := HM.out.2.2.2 h; omega
                have ht8 : t < 800 := by omega
                have ht8i : (t : Int) < 800 := by omega
                have c2 := H1.out.byt t ht8
                have f2 := H1.out.fr t
                obtain ⟨a, ha⟩ : ∃ a, m / 2 = a := ⟨_, rfl⟩
                obtain ⟨b, hb⟩ : ∃ b, m % 2 = b := ⟨_, rfl⟩
                have hqi : (m : Int) / 2 = (a : Int) := by omega
                have hri : bits BinOp.and IntKind.u64 (m : Int) 1 = (b : Int) := by
                  have := u64_and_nat m 1 (by omega) (by decide)
                  rw [show m &&& 1 = m % 2 from Nat.and_two_pow_sub_one_eq_mod m 1, hb] at this
                  exact this
                have ha9 : a ≤ 9 := by omega
                have hb9 : b < 2 := by omega
                have H2' : Dec w0 (wr.setCell ⟨B, t, none⟩ (.int .u8 ((a : Int) + 48))) B (upd E t (a + 48)) n pp := by
                  have := H1.out.set ht8 (a + 48) (by omega)
                  simpa using this
                have HL2 : Hid ((t + 1 = 0 → 2 ≤ b * 10) ∧ (1 ≤ t + 1 → 49 ≤ upd E t (a + 48) 0)) := ⟨fun h => absurd h (by omega), fun _ => by
                  rcases Nat.eq_zero_or_pos t with h | h
                  · have := HL.out.1 h
                    subst h
                    rw [upd_same]; omega
                  · rw [upd_other (by omega)]; exact HL.out.2 h⟩
                have HM2 : Hid ((1 ≤ i + 1 → b * 10 % 2 = 0) ∧ (2 ≤ i + 1 → b * 10 % 4 = 0) ∧ (3 ≤ i + 1 → b * 10 % 8 = 0) ∧ (2 ≤ i + 1 → b * 10 = 0)) := by
                  obtain ⟨g1, g2, g3, g4⟩ := HM.out
                  refine ⟨fun h => ?_, fun h => ?_, fun h => ?_, fun h => ?_⟩ <;> omega
                have H2 := Lib.hid H2'
                have ht2 : Hid (t + 1 = j + (i + 1)) := by have := ht.out; show _ = _; omega
                have ht3 : t ≤ j + 1 := by have := ht.out; omega
                generalize E t = y at *
                clear ha hb H2' HL HM ht
                go_wp2_with fail
                go_roundw
                case rel => exact ⟨i + 1, t + 1, b * 10, _, by go_num, (by congr 1), by omega, by omega, ht2, by omega, HM2, H2, HL2⟩
                case measure => simp [intOf]; omega
    · have hsh : (m : Int) / 2 ≠ 0 := by omega
      have hsh2 : ((m : Int) / 2 == 0) = false := by rw [beq_eq_false_iff_ne]; exact hsh
      have hmk2 : 2 ≤ m := by omega
      have hpr : (p : Int) - 1 = ((p - 1 : Nat) : Int) := by omega
      have HP := Lib.hid (H1.out.setP ((p - 1 : Nat) : Int))
      obtain ⟨pp, hpp⟩ : ∃ pp, p - 1 = pp := ⟨_, rfl⟩
      rw [hpp] at HP hpr
      have cdp := H1.out.dp
      have fdp := H1.out.fr 801
      go_wp2_with fail
      generalize wr.setCell ⟨B, 801, none⟩ (.int .i64 (pp : Int)) = w2 at *
      clear H1 cdp fdp
      go_loopw [4, 5, 6] (fun v4 v5 v6 wr => ∃ (j m : Nat) (E : Nat → Nat), v4 = .int .i64 (((2 + j : Nat)) : Int) ∧ v5 = .int .i64 j ∧ v6 = .int .u64 m ∧ m < 20 ∧ (j = 0 ∨ 2 + j ≤ n) ∧ Hid (Dec w0 wr B E n pp) ∧ Hid (∀ i, j ≤ i → E i = D i) ∧ Hid ((j = 0 → 2 ≤ m) ∧ (1 ≤ j → 49 ≤ E 0))) (fun v4 _ _ _ => n - (intOf v4).toNat)
      case atStart => exact ⟨0, _, D, by simp, rfl, rfl, by omega, by omega, HP, (fun _ _ => rfl), ⟨fun _ => by omega, fun h => absurd h (by omega)⟩⟩
      case round =>
        obtain ⟨j, m, E, rfl, rfl, rfl, hmq, hj, H1, HS, HL⟩ := hrel
        have cnd := H1.out.nd
        by_cases hlt : 2 + j < n
        · obtain ⟨x, hx⟩ : ∃ x, 2 + j = x := ⟨_, rfl⟩
          rw [hx] at hlt ⊢
          have hdx := HDg.out x (Nat.zero_le _) hlt
          obtain ⟨d, hd⟩ : ∃ d, D x = d + 48 := ⟨D x - 48, by omega⟩
          have hd9 : d ≤ 9 := by omega
          have c1 : wr.cell? ⟨B, x, none⟩ = some (.int .u8 ((d : Int) + 48)) := by
            have := H1.out.byt x (by omega)
            rw [HS.out x (by omega), hd] at this
            simpa using this
          have hj8 : j < 800 := by omega
          have c2 := H1.out.byt j hj8
          have f2 := H1.out.fr j
          obtain ⟨a, ha⟩ : ∃ a, m / 2 = a := ⟨_, rfl⟩
          obtain ⟨b, hb⟩ : ∃ b, m % 2 = b := ⟨_, rfl⟩
          have hqi : (m : Int) / 2 = (a : Int) := by omega
          have hri : bits BinOp.and IntKind.u64 (m : Int) 1 = (b : Int) := by
            have := u64_and_nat m 1 (by omega) (by decide)
            rw [show m &&& 1 = m % 2 from Nat.and_two_pow_sub_one_eq_mod m 1, hb] at this
            exact this
          have ha9 : a ≤ 9 := by omega
          have hb9 : b < 2 := by omega
          have H2' : Dec w0 (wr.setCell ⟨B, j, none⟩ (.int .u8 ((a : Int) + 48))) B (upd E j (a + 48)) n pp := by
            have := H1.out.set hj8 (a + 48) (by omega)
            simpa using this
          have HS2 : Hid (∀ i, j + 1 ≤ i → upd E j (a + 48) i = D i) := fun i hi => by rw [upd_other (by omega)]; exact HS.out i (by omega)
          have HL2 : Hid ((j + 1 = 0 → 2 ≤ b * 10 + d) ∧ (1 ≤ j + 1 → 49 ≤ upd E j (a + 48) 0)) := ⟨fun h => absurd h (by omega), fun _ => by
            rcases Nat.eq_zero_or_pos j with h | h
            · have := HL.out.1 h
              subst h
              rw [upd_same]; omega
            · rw [upd_other (by omega)]; exact HL.out.2 h⟩
          have H2 := Lib.hid H2'
          have hxn : (x : Int) < (n : Int) := by omega
          have hx8 : (x : Int) < 800 := by omega
          generalize E j = y at *
          have hxj := Lib.hid hx
          clear ha hb hd hdx H2' HL HS hx
          go_wp2_with fail
          go_roundw
          case rel => exact ⟨j + 1, b * 10 + d, _, (by congr 1; have := hxj.out; omega), by go_num, (by congr 1; omega), by omega, Or.inr (by have := hxj.out; omega), H2, HS2, HL2⟩
          case measure => have := hxj.out; simp [intOf]; omega
        · have HJ1 : Hid (j = 0 ∨ j + 2 ≤ n) := by show _ ∨ _; omega
          have hxn : ¬ (((2 + j : Nat)) : Int) < (n : Int) := by omega
          obtain ⟨x, hx⟩ : ∃ x, 2 + j = x := ⟨_, rfl⟩
          rw [hx] at hxn ⊢
          have hj30 : j ≤ 20 := by omega
          clear hj hx hlt
          go_wp2_with fail
          go_loopw [5, 6] (fun v5 v6 wr => ∃ (i t m : Nat) (E : Nat → Nat), v5 = .int .i64 t ∧ v6 = .int .u64 m ∧ m < 20 ∧ i ≤ 2 ∧ Hid (t = j + i) ∧ t ≤ 30 ∧ Hid ((1 ≤ i → m % 2 = 0) ∧ (2 ≤ i → m % 4 = 0) ∧ (3 ≤ i → m % 8 = 0) ∧ (2 ≤ i → m = 0)) ∧ Hid (Dec w0 wr B E n pp) ∧ Hid ((t = 0 → 2 ≤ m) ∧ (1 ≤ t → 49 ≤ E 0))) (fun v5 _ _ => j + 2 - (intOf v5).toNat)
          case atStart => exact ⟨0, j, m, E, rfl, rfl, hmq, by omega, rfl, by omega, ⟨fun h => absurd h (by omega), fun h => absurd h (by omega), fun h => absurd h (by omega), fun h => absurd h (by omega)⟩, H1, HL⟩
          case round =>
            clear H1 HL HS hmq cnd
            obtain ⟨i, t, m, E, rfl, rfl, hmq, hi, ht, ht30, HM, H1, HL⟩ := hrel
            rcases Nat.eq_zero_or_pos m with hm0 | hm0
            · subst hm0
              have ht1 : 1 ≤ t := by
                rcases Nat.eq_zero_or_pos t with h | h
                · have := HL.out.1 h; omega
                · exact h
              have cnd := H1.out.nd
              have fnd := H1.out.fr 800
              have HT := Lib.hid (trimD_any w0 _ B E t pp (H1.out.setN t) ht1 (by omega) (HL.out.2 ht1))
              go_wp2_with fail
              refine HT.out.mono ?_
              rintro e w3 ⟨rfl, m2, hm1, hm2, h4⟩
              have HD4 := Lib.hid h4
              clear h4 HT
              go_wp2_with fail
              go_end0
              exact ⟨rfl, E, m2, pp, HD4.out, hm1, (by have := ht.out; have := HJ1.out; omega), by omega, by omega⟩
            · have hm1 : (0 : Int) < (m : Int) := by omega
              have hik : i ≤ 1 := by
                rcases Nat.lt_or_ge i 2 with h | h
                · omega
                · have := HM.out.2.2.2 h; omega
              have ht8 : t < 800 := by omega
              have ht8i : (t : Int) < 800 := by omega
              have c2 := H1.out.byt t ht8
              have f2 := H1.out.fr t
              obtain ⟨a, ha⟩ : ∃ a, m / 2 = a := ⟨_, rfl⟩
              obtain ⟨b, hb⟩ : ∃ b, m % 2 = b := ⟨_, rfl⟩
              have hqi : (m : Int) / 2 = (a : Int) := by omega
              have hri : bits BinOp.and IntKind.u64 (m : Int) 1 = (b : Int) := by
                have := u64_and_nat m 1 (by omega) (by decide)
                rw [show m &&& 1 = m % 2 from Nat.and_two_pow_sub_one_eq_mod m 1, hb] at this
                exact this
              have ha9 : a ≤ 9 := by omega
              have hb9 : b < 2 := by omega
              have H2' : Dec w0 (wr.setCell ⟨B, t, none⟩ (.int .u8 ((a : Int) + 48))) B (upd E t (a + 48)) n pp := by
                have := H1.out.set ht8 (a + 48) (by omega)
                simpa using this
              have HL2 : Hid ((t + 1 = 0 → 2 ≤ b * 10) ∧ (1 ≤ t + 1 → 49 ≤ upd E t (a + 48) 0)) := ⟨fun h => absurd h (by omega), fun _ => by
                rcases Nat.eq_zero_or_pos t with h | h
                · have := HL.out.1 h
                  subst h
                  rw [upd_same]; omega
                · rw [upd_other (by omega)]; exact HL.out.2 h⟩
              have HM2 : Hid ((1 ≤ i + 1 → b * 10 % 2 = 0) ∧ (2 ≤ i + 1 → b * 10 % 4 = 0) ∧ (3 ≤ i + 1 → b * 10 % 8 = 0) ∧ (2 ≤ i + 1 → b * 10 = 0)) := by
                obtain ⟨g1, g2, g3, g4⟩ := HM.out
                refine ⟨fun h => ?_, fun h => ?_, fun h => ?_, fun h => ?_⟩ <;> omega
              have H2 := Lib.hid H2'
              have ht2 : Hid (t + 1 = j + (i + 1)) := by have := ht.out; show _ = _; omega
              have ht3 : t ≤ j + 1 := by have := ht.out; omega
              generalize E t = y at *
              clear ha hb H2' HL HM ht
              go_wp2_with fail
              go_roundw
              case rel => exact ⟨i + 1, t + 1, b * 10, _, by go_num, (by congr 1), by omega, by omega, ht2, by omega, HM2, H2, HL2⟩
              case measure => simp [intOf]; omega
end Go.Proofs.YtmhgacgneckboaaGreatDoor

namespace Go.Proofs.YtmhgacgneckboaaGreatDoor
open Go Go.RowKit Dcp Go.Sort Adr
set_option maxHeartbeats 4000000 in
set_option maxRecDepth 100000 in
theorem right2_any (w0 w : World) (B : Nat) (D : Nat → Nat) (n : Nat) (p : Nat) (h : Dec w0 w B D n p) (hn : 1 ≤ n) (hn2 : n ≤ 20) (hnp : n ≤ p) (hp : 16 ≤ p) (hp2 : p ≤ 20) (hD : Dgt D 0 n) (h0 : 49 ≤ D 0) :
    Calls Tryz.prog 132 #[.pointer (some ⟨B, 0, none⟩), .int .u64 2] w fun e w' => e = .returned (.tuple #[]) ∧ ∃ (D' : Nat → Nat) (n' p' : Nat), Dec w0 w' B D' n' p' ∧ 1 ≤ n' ∧ n' ≤ p' + 3 ∧ 1 ≤ p' ∧ p' ≤ 20 := by
  have H0 := Lib.hid h
  have HDg := Lib.hid hD
  clear h hD
  go_enter Tryz.func132, Tryz.ntmps132
  go_wp2_with fail
  go_loopw [4, 6] (fun v4 v6 wr => ∃ r m : Nat, v4 = .int .i64 r ∧ v6 = .int .u64 m ∧ ((r = 0 ∧ m = 0) ∨ (r = 1 ∧ 1 ≤ m ∧ m ≤ 9) ∨ (r = 2 ∧ 10 ≤ m ∧ m < 40)) ∧ r ≤ 2 ∧ wr = w) (fun v4 _ _ => 3 - (intOf v4).toNat)
  case atStart => exact ⟨0, 0, rfl, rfl, Or.inl ⟨rfl, rfl⟩, by omega, rfl⟩
  case round =>
    obtain ⟨r, m, rfl, rfl, hrm, hr2, rfl⟩ := hrel
    have H1 := H0
    clear H0
    have cnd := H1.out.nd
    rcases hrm with ⟨rfl, rfl⟩ | ⟨rfl, hm1, hm2⟩ | ⟨rfl, hm1, hm2⟩
    · have hd0 := HDg.out 0 (Nat.le_refl _) (by omega)
      obtain ⟨d, hd⟩ : ∃ d, D 0 = d + 48 := ⟨D 0 - 48, by omega⟩
      have hd9 : d ≤ 9 := by omega
      have hd1 : 1 ≤ d := by omega
      have c1 : wr.cell? ⟨B, 0, none⟩ = some (.int .u8 ((d : Int) + 48)) := by
        have := H1.out.byt 0 (by omega)
        rw [hd] at this
        simpa using this
      have hn0 : (0 : Int) < (n : Int) := by omega
      have hn0' : ¬ (n : Int) ≤ 0 := by omega
      clear hd hd0 h0
      go_wp2_with fail
      go_roundw
      case rel => exact ⟨1, d, by go_num, (by first | rfl | (congr 1; omega)), Or.inr (Or.inl ⟨rfl, hd1, hd9⟩), by omega, by first | rfl | trivial⟩
      case measure => simp [intOf]
    · by_cases hmk : m < 4
      · have hsh : (m : Int) / 4 = 0 := by omega
        by_cases hn1 : 1 < n
        · have hd0 := HDg.out 1 (Nat.zero_le _) (by omega)
          obtain ⟨d, hd⟩ : ∃ d, D 1 = d + 48 := ⟨D 1 - 48, by omega⟩
          have hd9 : d ≤ 9 := by omega
          have c1 : wr.cell? ⟨B, 1, none⟩ = some (.int .u8 ((d : Int) + 48)) := by
            have := H1.out.byt 1 (by omega)
            rw [hd] at this
            simpa using this
          have hn0 : (1 : Int) < (n : Int) := by omega
          have hn0' : ¬ (n : Int) ≤ 1 := by omega
          clear hd hd0 h0
          go_wp2_with fail
          go_roundw
          case rel => exact ⟨2, m * 10 + d, by go_num, (by congr 1; omega), Or.inr (Or.inr ⟨rfl, by omega, by omega⟩), by omega, by first | rfl | trivial⟩
          case measure => simp [intOf]
        · have hge : (n : Int) ≤ 1 := by omega
          have hm0 : ((m : Int) == 0) = false := by rw [beq_eq_false_iff_ne]; omega
          have hsh2 : ((m : Int) * 10) / 4 ≠ 0 := by omega
          have hsh3 : (((m : Int) * 10) / 4 == 0) = false := by rw [beq_eq_false_iff_ne]; exact hsh2
          go_wp2_with fail
          go_loopw [4, 6] (fun v4 v6 wx => ((v4 = .int .i64 1 ∧ v6 = .int .u64 m) ∨ (v4 = .int .i64 2 ∧ v6 = .int .u64 ((m * 10 : Nat) : Int))) ∧ wx = wr) (fun v4 _ _ => 2 - (intOf v4).toNat)
          case atStart => exact ⟨Or.inl ⟨rfl, rfl⟩, rfl⟩
          case round =>
            obtain ⟨⟨rfl, rfl⟩ | ⟨rfl, rfl⟩, rfl⟩ := hrel
            · go_wp2_with fail
              go_roundw
              case rel => exact ⟨Or.inr ⟨by go_num, (by congr 1)⟩, by first | rfl | trivial⟩
              case measure => simp [intOf]
            · have hmm := hm1
              obtain ⟨m3, hm3⟩ : ∃ m3, m * 10 = m3 := ⟨_, rfl⟩
              rw [hm3]
              have hm4 : 4 ≤ m3 := by omega
              have hm5 : m3 < 40 := by omega
              have hsh4 : (m3 : Int) / 4 ≠ 0 := by omega
              have hsh5 : ((m3 : Int) / 4 == 0) = false := by rw [beq_eq_false_iff_ne]; exact hsh4
              clear hsh hsh2 hsh3 hm0 hm3 hm1 hm2 hmk hmm
              have hpr : (p : Int) - 1 = ((p - 1 : Nat) : Int) := by omega
              have HP := Lib.hid (H1.out.setP ((p - 1 : Nat) : Int))
              obtain ⟨pp, hpp⟩ : ∃ pp, p - 1 = pp := ⟨_, rfl⟩
              rw [hpp] at HP hpr
              have cdp := H1.out.dp
              have fdp := H1.out.fr 801
              go_wp2_with fail
              generalize wr.setCell ⟨B, 801, none⟩ (.int .i64 (pp : Int)) = w2 at *
              clear H1 cdp fdp
              go_loopw [4, 5, 6] (fun v4 v5 v6 wr => ∃ (j m : Nat) (E : Nat → Nat), v4 = .int .i64 (((2 + j : Nat)) : Int) ∧ v5 = .int .i64 j ∧ v6 = .int .u64 m ∧ m < 40 ∧ (j = 0 ∨ 2 + j ≤ n) ∧ Hid (Dec w0 wr B E n pp) ∧ Hid (∀ i, j ≤ i → E i = D i) ∧ Hid ((j = 0 → 4 ≤ m) ∧ (1 ≤ j → 49 ≤ E 0))) (fun v4 _ _ _ => n - (intOf v4).toNat)
              case atStart => exact ⟨0, _, D, by simp, rfl, rfl, by omega, by omega, HP, (fun _ _ => rfl), ⟨fun _ => by omega, fun h => absurd h (by omega)⟩⟩
              case round =>
                obtain ⟨j, m, E, rfl, rfl, rfl, hmq, hj, H1, HS, HL⟩ := hrel
                have cnd := H1.out.nd
                by_cases hlt : 2 + j < n
                · obtain ⟨x, hx⟩ : ∃ x, 2 + j = x := ⟨_, rfl⟩
                  rw [hx] at hlt ⊢
                  have hdx := HDg.out x (Nat.zero_le _) hlt
                  obtain ⟨d, hd⟩ : ∃ d, D x = d + 48 := ⟨D x - 48, by omega⟩
                  have hd9 : d ≤ 9 := by omega
                  have c1 : wr.cell? ⟨B, x, none⟩ = some (.int .u8 ((d : Int) + 48)) := by
                    have := H1.out.byt x (by omega)
                    rw [HS.out x (by omega), hd] at this
                    simpa using this
                  have hj8 : j < 800 := by omega
                  have c2 := H1.out.byt j hj8
                  have f2 := H1.out.fr j
                  obtain ⟨a, ha⟩ : ∃ a, m / 4 = a := ⟨_, rfl⟩
                  obtain ⟨b, hb⟩ : ∃ b, m % 4 = b := ⟨_, rfl⟩
                  have hqi : (m : Int) / 4 = (a : Int) := by omega
                  have hri : bits BinOp.and IntKind.u64 (m : Int) 3 = (b : Int) := by
                    have := u64_and_nat m 3 (by omega) (by decide)
                    rw [show m &&& 3 = m % 4 from Nat.and_two_pow_sub_one_eq_mod m 2, hb] at this
                    exact this
                  have ha9 : a ≤ 9 := by omega
                  have hb9 : b < 4 := by omega
                  have H2' : Dec w0 (wr.setCell ⟨B, j, none⟩ (.int .u8 ((a : Int) + 48))) B (upd E j (a + 48)) n pp := by
                    have := H1.out.set hj8 (a + 48) (by omega)
                    simpa using this
                  have HS2 : Hid (∀ i, j + 1 ≤ i → upd E j (a + 48) i = D i) := fun i hi => by rw [upd_other (by omega)]; exact HS.out i (by omega)
                  have HL2 : Hid ((j + 1 = 0 → 4 ≤ b * 10 + d) ∧ (1 ≤ j + 1 → 49 ≤ upd E j (a + 48) 0)) := ⟨fun h => absurd h (by omega), fun _ => by
                    rcases Nat.eq_zero_or_pos j with h | h
                    · have := HL.out.1 h
                      subst h
                      rw [upd_same]; omega
                    · rw [upd_other (by omega)]; exact HL.out.2 h⟩
                  have H2 := Lib.hid H2'
                  have hxn : (x : Int) < (n : Int) := by omega
                  have hx8 : (x : Int) < 800 := by omega
                  generalize E j = y at *
                  have hxj := Lib.hid hx
                  clear ha hb hd hdx H2' HL HS hx
                  go_wp2_with fail
                  go_roundw
                  case rel => exact ⟨j + 1, b * 10 + d, _, (by congr 1; have := hxj.out; omega), by go_num, (by congr 1; omega), by omega, Or.inr (by have := hxj.out; omega), H2, HS2, HL2⟩
                  case measure => have := hxj.out; simp [intOf]; omega
                · have HJ1 : Hid (j = 0 ∨ j + 2 ≤ n) := by show _ ∨ _; omega
                  have hxn : ¬ (((2 + j : Nat)) : Int) < (n : Int) := by omega
                  obtain ⟨x, hx⟩ : ∃ x, 2 + j = x := ⟨_, rfl⟩
                  rw [hx] at hxn ⊢
                  have hj30 : j ≤ 20 := by omega
                  clear hj hx hlt
                  go_wp2_with fail
                  go_loopw [5, 6] (fun v5 v6 wr => ∃ (i t m : Nat) (E : Nat → Nat), v5 = .int .i64 t ∧ v6 = .int .u64 m ∧ m < 40 ∧ i ≤ 3 ∧ Hid (t = j + i) ∧ t ≤ 30 ∧ Hid ((1 ≤ i → m % 2 = 0) ∧ (2 ≤ i → m % 4 = 0) ∧ (3 ≤ i → m % 8 = 0) ∧ (3 ≤ i → m = 0)) ∧ Hid (Dec w0 wr B E n pp) ∧ Hid ((t = 0 → 4 ≤ m) ∧ (1 ≤ t → 49 ≤ E 0))) (fun v5 _ _ => j + 3 - (intOf v5).toNat)
                  case atStart => exact ⟨0, j, m, E, rfl, rfl, hmq, by omega, rfl, by omega, ⟨fun h => absurd h (by omega), fun h => absurd h (by omega), fun h => absurd h (by omega), fun h => absurd h (by omega)⟩, H1, HL⟩
                  case round =>
                    clear H1 HL HS hmq cnd
                    obtain ⟨i, t, m, E, rfl, rfl, hmq, hi, ht, ht30, HM, H1, HL⟩ := hrel
                    rcases Nat.eq_zero_or_pos m with hm0 | hm0
                    · subst hm0
                      have ht1 : 1 ≤ t := by
                        rcases Nat.eq_zero_or_pos t with h | h
                        · have := HL.out.1 h; omega
                        · exact h
                      have cnd := H1.out.nd
                      have fnd := H1.out.fr 800
                      have HT := Lib.hid (trimD_any w0 _ B E t pp (H1.out.setN t) ht1 (by omega) (HL.out.2 ht1))
                      go_wp2_with fail
                      refine HT.out.mono ?_
                      rintro e w3 ⟨rfl, m2, hm1, hm2, h4⟩
                      have HD4 := Lib.hid h4
                      clear h4 HT
                      go_wp2_with fail
                      go_end0
                      exact ⟨rfl, E, m2, pp, HD4.out, hm1, (by have := ht.out; have := HJ1.out; omega), by omega, by omega⟩
                    · have hm1 : (0 : Int) < (m : Int) := by omega
                      have hik : i ≤ 2 := by
                        rcases Nat.lt_or_ge i 3 with h | h
                        · omega
                        · have := HM.out.2.2.2 h; omega
                      have ht8 : t < 800 := by omega
                      have ht8i : (t : Int) < 800 := by omega
                      have c2 := H1.out.byt t ht8
                      have f2 := H1.out.fr t
                      obtain ⟨a, ha⟩ : ∃ a, m / 4 = a := ⟨_, rfl⟩
                      obtain ⟨b, hb⟩ : ∃ b, m % 4 = b := ⟨_, rfl⟩
                      have hqi : (m : Int) / 4 = (a : Int) := by omega
                      have hri : bits BinOp.and IntKind.u64 (m : Int) 3 = (b : Int) := by
                        have := u64_and_nat m 3 (by omega) (by decide)
                        rw [show m &&& 3 = m % 4 from Nat.and_two_pow_sub_one_eq_mod m 2, hb] at this
                        exact this
                      have ha9 : a ≤ 9 := by omega
                      have hb9 : b < 4 := by omega
                      have H2' : Dec w0 (wr.setCell ⟨B, t, none⟩ (.int .u8 ((a : Int) + 48))) B (upd E t (a + 48)) n pp := by
                        have := H1.out.set ht8 (a + 48) (by omega)
                        simpa using this
                      have HL2 : Hid ((t + 1 = 0 → 4 ≤ b * 10) ∧ (1 ≤ t + 1 → 49 ≤ upd E t (a + 48) 0)) := ⟨fun h => absurd h (by omega), fun _ => by
                        rcases Nat.eq_zero_or_pos t with h | h
                        · have := HL.out.1 h
                          subst h
                          rw [upd_same]; omega
                        · rw [upd_other (by omega)]; exact HL.out.2 h⟩
                      have HM2 : Hid ((1 ≤ i + 1 → b * 10 % 2 = 0) ∧ (2 ≤ i + 1 → b * 10 % 4 = 0) ∧ (3 ≤ i + 1 → b * 10 % 8 = 0) ∧ (3 ≤ i + 1 → b * 10 = 0)) := by
                        obtain ⟨g1, g2, g3, g4⟩ := HM.out
                        refine ⟨fun h => ?_, fun h => ?_, fun h => ?_, fun h => ?_⟩ <;> omega
                      have H2 := Lib.hid H2'
                      have ht2 : Hid (t + 1 = j + (i + 1)) := by have := ht.out; show _ = _; omega
                      have ht3 : t ≤ j + 2 := by have := ht.out; omega
                      generalize E t = y at *
                      clear ha hb H2' HL HM ht
                      go_wp2_with fail
                      go_roundw
                      case rel => exact ⟨i + 1, t + 1, b * 10, _, by go_num, (by congr 1), by omega, by omega, ht2, by omega, HM2, H2, HL2⟩
                      case measure => simp [intOf]; omega
      · have hsh : (m : Int) / 4 ≠ 0 := by omega
        have hsh2 : ((m : Int) / 4 == 0) = false := by rw [beq_eq_false_iff_ne]; exact hsh
        have hmk2 : 4 ≤ m := by omega
        have hm3 : m < 40 := by omega
        clear hmk
        have hpr : (p : Int) - 0 = ((p - 0 : Nat) : Int) := by omega
        have HP := Lib.hid (H1.out.setP ((p - 0 : Nat) : Int))
        obtain ⟨pp, hpp⟩ : ∃ pp, p - 0 = pp := ⟨_, rfl⟩
        rw [hpp] at HP hpr
        have cdp := H1.out.dp
        have fdp := H1.out.fr 801
        go_wp2_with fail
        generalize wr.setCell ⟨B, 801, none⟩ (.int .i64 (pp : Int)) = w2 at *
        clear H1 cdp fdp
        go_loopw [4, 5, 6] (fun v4 v5 v6 wr => ∃ (j m : Nat) (E : Nat → Nat), v4 = .int .i64 (((1 + j : Nat)) : Int) ∧ v5 = .int .i64 j ∧ v6 = .int .u64 m ∧ m < 40 ∧ (j = 0 ∨ 1 + j ≤ n) ∧ Hid (Dec w0 wr B E n pp) ∧ Hid (∀ i, j ≤ i → E i = D i) ∧ Hid ((j = 0 → 4 ≤ m) ∧ (1 ≤ j → 49 ≤ E 0))) (fun v4 _ _ _ => n - (intOf v4).toNat)
        case atStart => exact ⟨0, _, D, by simp, rfl, rfl, by omega, by omega, HP, (fun _ _ => rfl), ⟨fun _ => by omega, fun h => absurd h (by omega)⟩⟩
        case round =>
          obtain ⟨j, m, E, rfl, rfl, rfl, hmq, hj, H1, HS, HL⟩ := hrel
          have cnd := H1.out.nd
          by_cases hlt : 1 + j < n
          · obtain ⟨x, hx⟩ : ∃ x, 1 + j = x := ⟨_, rfl⟩
            rw [hx] at hlt ⊢
            have hdx := HDg.out x (Nat.zero_le _) hlt
            obtain ⟨d, hd⟩ : ∃ d, D x = d + 48 := ⟨D x - 48, by omega⟩
            have hd9 : d ≤ 9 := by omega
            have c1 : wr.cell? ⟨B, x, none⟩ = some (.int .u8 ((d : Int) + 48)) := by
              have := H1.out.byt x (by omega)
              rw [HS.out x (by omega), hd] at this
              simpa using this
            have hj8 : j < 800 := by omega
            have c2 := H1.out.byt j hj8
            have f2 := H1.out.fr j
            obtain ⟨a, ha⟩ : ∃ a, m / 4 = a := ⟨_, rfl⟩
            obtain ⟨b, hb⟩ : ∃ b, m % 4 = b := ⟨_, rfl⟩
            have hqi : (m : Int) / 4 = (a : Int) := by omega
            have hri : bits BinOp.and IntKind.u64 (m : Int) 3 = (b : Int) := by
              have := u64_and_nat m 3 (by omega) (by decide)
              rw [show m &&& 3 = m % 4 from Nat.and_two_pow_sub_one_eq_mod m 2, hb] at this
              exact this
            have ha9 : a ≤ 9 := by omega
            have hb9 : b < 4 := by omega
            have H2' : Dec w0 (wr.setCell ⟨B, j, none⟩ (.int .u8 ((a : Int) + 48))) B (upd E j (a + 48)) n pp := by
              have := H1.out.set hj8 (a + 48) (by omega)
              simpa using this
            have HS2 : Hid (∀ i, j + 1 ≤ i → upd E j (a + 48) i = D i) := fun i hi => by rw [upd_other (by omega)]; exact HS.out i (by omega)
            have HL2 : Hid ((j + 1 = 0 → 4 ≤ b * 10 + d) ∧ (1 ≤ j + 1 → 49 ≤ upd E j (a + 48) 0)) := ⟨fun h => absurd h (by omega), fun _ => by
              rcases Nat.eq_zero_or_pos j with h | h
              · have := HL.out.1 h
                subst h
                rw [upd_same]; omega
              · rw [upd_other (by omega)]; exact HL.out.2 h⟩
            have H2 := Lib.hid H2'
            have hxn : (x : Int) < (n : Int) := by omega
            have hx8 : (x : Int) < 800 := by omega
            generalize E j = y at *
            have hxj := Lib.hid hx
            clear ha hb hd hdx H2' HL HS hx
            go_wp2_with fail
            go_roundw
            case rel => exact ⟨j + 1, b * 10 + d, _, (by congr 1; have := hxj.out; omega), by go_num, (by congr 1; omega), by omega, Or.inr (by have := hxj.out; omega), H2, HS2, HL2⟩
            case measure => have := hxj.out; simp [intOf]; omega
          · have HJ1 : Hid (j = 0 ∨ j + 1 ≤ n) := by show _ ∨ _; omega
            have hxn : ¬ (((1 + j : Nat)) : Int) < (n : Int) := by omega
            obtain ⟨x, hx⟩ : ∃ x, 1 + j = x := ⟨_, rfl⟩
            rw [hx] at hxn ⊢
            have hj30 : j ≤ 20 := by omega
            clear hj hx hlt
            go_wp2_with fail
            go_loopw [5, 6] (fun v5 v6 wr => ∃ (i t m : Nat) (E : Nat → Nat), v5 = .int .i64 t ∧ v6 = .int .u64 m ∧ m < 40 ∧ i ≤ 3 ∧ Hid (t = j + i) ∧ t ≤ 30 ∧ Hid ((1 ≤ i → m % 2 = 0) ∧ (2 ≤ i → m % 4 = 0) ∧ (3 ≤ i → m % 8 = 0) ∧ (3 ≤ i → m = 0)) ∧ Hid (Dec w0 wr B E n pp) ∧ Hid ((t = 0 → 4 ≤ m) ∧ (1 ≤ t → 49 ≤ E 0))) (fun v5 _ _ => j + 3 - (intOf v5).toNat)
            case atStart => exact ⟨0, j, m, E, rfl, rfl, hmq, by omega, rfl, by omega, ⟨fun h => absurd h (by omega), fun h => absurd h (by omega), fun h => absurd h (by omega), fun h => absurd h (by omega)⟩, H1, HL⟩
            case round =>
              clear H1 HL HS hmq cnd
              obtain ⟨i, t, m, E, rfl, rfl, hmq, hi, ht, ht30, HM, H1, HL⟩ := hrel
              rcases Nat.eq_zero_or_pos m with hm0 | hm0
              · subst hm0
                have ht1 : 1 ≤ t := by
                  rcases Nat.eq_zero_or_pos t with h | h
                  · have := HL.out.1 h; omega
                  · exact h
                have cnd := H1.out.nd
                have fnd := H1.out.fr 800
                have HT := Lib.hid (trimD_any w0 _ B E t pp (H1.out.setN t) ht1 (by omega) (HL.out.2 ht1))
                go_wp2_with fail
                refine HT.out.mono ?_
                rintro e w3 ⟨rfl, m2, hm1, hm2, h4⟩
                have HD4 := Lib.hid h4
                clear h4 HT
                go_wp2_with fail
                go_end0
                exact ⟨rfl, E, m2, pp, HD4.out, hm1, (by have := ht.out; have := HJ1.out; omega), by omega, by omega⟩
              · have hm1 : (0 : Int) < (m : Int) := by omega
                have hik : i ≤ 2 := by
                  rcases Nat.lt_or_ge i 3 with h | h
                  · omega
                  · have := HM.out.2.2.2 h; omega
                have ht8 : t < 800 := by omega
                have ht8i : (t : Int) < 800 := by omega
                have c2 := H1.out.byt t ht8
                have f2 := H1.out.fr t
                obtain ⟨a, ha⟩ : ∃ a, m / 4 = a := ⟨_, rfl⟩
                obtain ⟨b, hb⟩ : ∃ b, m % 4 = b := ⟨_, rfl⟩
                have hqi : (m : Int) / 4 = (a : Int) := by omega
                have hri : bits BinOp.and IntKind.u64 (m : Int) 3 = (b : Int) := by
                  have := u64_and_nat m 3 (by omega) (by decide)
                  rw [show m &&& 3 = m % 4 from Nat.and_two_pow_sub_one_eq_mod m 2, hb] at this
                  exact this
                have ha9 : a ≤ 9 := by omega
                have hb9 : b < 4 := by omega
                have H2' : Dec w0 (wr.setCell ⟨B, t, none⟩ (.int .u8 ((a : Int) + 48))) B (upd E t (a + 48)) n pp := by
                  have := H1.out.set ht8 (a + 48) (by omega)
                  simpa using this
                have HL2 : Hid ((t + 1 = 0 → 4 ≤ b * 10) ∧ (1 ≤ t + 1 → 49 ≤ upd E t (a + 48) 0)) := ⟨fun h => absurd h (by omega), fun _ => by
                  rcases Nat.eq_zero_or_pos t with h | h
                  · have := HL.out.1 h
                    subst h
                    rw [upd_same]; omega
                  · rw [upd_other (by omega)]; exact HL.out.2 h⟩
                have HM2 : Hid ((1 ≤ i + 1 → b * 10 % 2 = 0) ∧ (2 ≤ i + 1 → b * 10 % 4 = 0) ∧ (3 ≤ i + 1 → b * 10 % 8 = 0) ∧ (3 ≤ i + 1 → b * 10 = 0)) := by
                  obtain ⟨g1, g2, g3, g4⟩ := HM.out
                  refine ⟨fun h => ?_, fun h => ?_, fun h => ?_, fun h => ?_⟩ <;> omega
                have H2 := Lib.hid H2'
                have ht2 : Hid (t + 1 = j + (i + 1)) := by have := ht.out; show _ = _; omega
                have ht3 : t ≤ j + 2 := by have := ht.out; omega
                generalize E t = y at *
                clear ha hb H2' HL HM ht
                go_wp2_with fail
                go_roundw
                case rel => exact ⟨i + 1, t + 1, b * 10, _, by go_num, (by congr 1), by omega, by omega, ht2, by omega, HM2, H2, HL2⟩
                case measure => simp [intOf]; omega
    · have hsh : (m : Int) / 4 ≠ 0 := by omega
      have hsh2 : ((m : Int) / 4 == 0) = false := by rw [beq_eq_false_iff_ne]; exact hsh
      have hmk2 : 4 ≤ m := by omega
      have hpr : (p : Int) - 1 = ((p - 1 : Nat) : Int) := by omega
      have HP := Lib.hid (H1.out.setP ((p - 1 : Nat) : Int))
      obtain ⟨pp, hpp⟩ : ∃ pp, p - 1 = pp := ⟨_, rfl⟩
      rw [hpp] at HP hpr
      have cdp := H1.out.dp
      have fdp := H1.out.fr 801
      go_wp2_with fail
      generalize wr.setCell ⟨B, 801, none⟩ (.int .i64 (pp : Int)) = w2 at *
      clear H1 cdp fdp
      go_loopw [4, 5, 6] (fun v4 v5 v6 wr => ∃ (j m : Nat) (E : Nat → Nat), v4 = .int .i64 (((2 + j : Nat)) : Int) ∧ v5 = .int .i64 j ∧ v6 = .int .u64 m ∧ m < 40 ∧ (j = 0 ∨ 2 + j ≤ n) ∧ Hid (Dec w0 wr B E n pp) ∧ Hid (∀ i, j ≤ i → E i = D i) ∧ Hid ((j = 0 → 4 ≤ m) ∧ (1 ≤ j → 49 ≤ E 0))) (fun v4 _ _ _ => n - (intOf v4).toNat)
      case atStart => exact ⟨0, _, D, by simp, rfl, rfl, by omega, by omega, HP, (fun _ _ => rfl), ⟨fun _ => by omega, fun h => absurd h (by omega)⟩⟩
      case round =>
        obtain ⟨j, m, E, rfl, rfl, rfl, hmq, hj, H1, HS, HL⟩ := hrel
        have cnd := H1.out.nd
        by_cases hlt : 2 + j < n
        · obtain ⟨x, hx⟩ : ∃ x, 2 + j = x := ⟨_, rfl⟩
          rw [hx] at hlt ⊢
          have hdx := HDg.out x (Nat.zero_le _) hlt
          obtain ⟨d, hd⟩ : ∃ d, D x = d + 48 := ⟨D x - 48, by omega⟩
          have hd9 : d ≤ 9 := by omega
          have c1 : wr.cell? ⟨B, x, none⟩ = some (.int .u8 ((d : Int) + 48)) := by
            have := H1.out.byt x (by omega)
            rw [HS.out x (by omega), hd] at this
            simpa using this
          have hj8 : j < 800 := by omega
          have c2 := H1.out.byt j hj8
          have f2 := H1.out.fr j
          obtain ⟨a, ha⟩ : ∃ a, m / 4 = a := ⟨_, rfl⟩
          obtain ⟨b, hb⟩ : ∃ b, m % 4 = b := ⟨_, rfl⟩
          have hqi : (m : Int) / 4 = (a : Int) := by omega
          have hri : bits BinOp.and IntKind.u64 (m : Int) 3 = (b : Int) := by
            have := u64_and_nat m 3 (by omega) (by decide)
            rw [show m &&& 3 = m % 4 from Nat.and_two_pow_sub_one_eq_mod m 2, hb] at this
            exact this
          have ha9 : a ≤ 9 := by omega
          have hb9 : b < 4 := by omega
          have H2' : Dec w0 (wr.setCell ⟨B, j, none⟩ (.int .u8 ((a : Int) + 48))) B (upd E j (a + 48)) n pp := by
            have := H1.out.set hj8 (a + 48) (by omega)
            simpa using this
          have HS2 : Hid (∀ i, j + 1 ≤ i → upd E j (a + 48) i = D i) := fun i hi => by rw [upd_other (by omega)]; exact HS.out i (by omega)
          have HL2 : Hid ((j + 1 = 0 → 4 ≤ b * 10 + d) ∧ (1 ≤ j + 1 → 49 ≤ upd E j (a + 48) 0)) := ⟨fun h => absurd h (by omega), fun _ => by
            rcases Nat.eq_zero_or_pos j with h | h
            · have := HL.out.1 h
              subst h
              rw [upd_same]; omega
            · rw [upd_other (by omega)]; exact HL.out.2 h⟩
          have H2 := Lib.hid H2'
          have hxn : (x : Int) < (n : Int) := by omega
          have hx8 : (x : Int) < 800 := by omega
          generalize E j = y at *
          have hxj := Lib.hid hx
          clear ha hb hd hdx H2' HL HS hx
          go_wp2_with fail
          go_roundw
          case rel => exact ⟨j + 1, b * 10 + d, _, (by congr 1; have := hxj.out; omega), by go_num, (by congr 1; omega), by omega, Or.inr (by have := hxj.out; omega), H2, HS2, HL2⟩
          case measure => have := hxj.out; simp [intOf]; omega
        · have HJ1 : Hid (j = 0 ∨ j + 2 ≤ n) := by show _ ∨ _; omega
          have hxn : ¬ (((2 + j : Nat)) : Int) < (n : Int) := by omega
          obtain ⟨x, hx⟩ : ∃ x, 2 + j = x := ⟨_, rfl⟩
          rw [hx] at hxn ⊢
          have hj30 : j ≤ 20 := by omega
          clear hj hx hlt
          go_wp2_with fail
          go_loopw [5, 6] (fun v5 v6 wr => ∃ (i t m : Nat) (E : Nat → Nat), v5 = .int .i64 t ∧ v6 = .int .u64 m ∧ m < 40 ∧ i ≤ 3 ∧ Hid (t = j + i) ∧ t ≤ 30 ∧ Hid ((1 ≤ i → m % 2 = 0) ∧ (2 ≤ i → m % 4 = 0) ∧ (3 ≤ i → m % 8 = 0) ∧ (3 ≤ i → m = 0)) ∧ Hid (Dec w0 wr B E n pp) ∧ Hid ((t = 0 → 4 ≤ m) ∧ (1 ≤ t → 49 ≤ E 0))) (fun v5 _ _ => j + 3 - (intOf v5).toNat)
          case atStart => exact ⟨0, j, m, E, rfl, rfl, hmq, by omega, rfl, by omega, ⟨fun h => absurd h (by omega), fun h => absurd h (by omega), fun h => absurd h (by omega), fun h => absurd h (by omega)⟩, H1, HL⟩
          case round =>
            clear H1 HL HS hmq cnd
            obtain ⟨i, t, m, E, rfl, rfl, hmq, hi, ht, ht30, HM, H1, HL⟩ := hrel
            rcases Nat.eq_zero_or_pos m with hm0 | hm0
            · subst hm0
              have ht1 : 1 ≤ t := by
                rcases Nat.eq_zero_or_pos t with h | h
                · have := HL.out.1 h; omega
                · exact h
              have cnd := H1.out.nd
              have fnd := H1.out.fr 800
              have HT := Lib.hid (trimD_any w0 _ B E t pp (H1.out.setN t) ht1 (by omega) (HL.out.2 ht1))
              go_wp2_with fail
              refine HT.out.mono ?_
              rintro e w3 ⟨rfl, m2, hm1, hm2, h4⟩
              have HD4 := Lib.hid h4
              clear h4 HT
              go_wp2_with fail
              go_end0
              exact ⟨rfl, E, m2, pp, HD4.out, hm1, (by have := ht.out; have := HJ1.out; omega), by omega, by omega⟩
            · have hm1 : (0 : Int) < (m : Int) := by omega
              have hik : i ≤ 2 := by
                rcases Nat.lt_or_ge i 3 with h | h
                · omega
                · have := HM.out.2.2.2 h; omega
              have ht8 : t < 800 := by omega
              have ht8i : (t : Int) < 800 := by omega
              have c2 := H1.out.byt t ht8
              have f2 := H1.out.fr t
              obtain ⟨a, ha⟩ : ∃ a, m / 4 = a := ⟨_, rfl⟩
              obtain ⟨b, hb⟩ : ∃ b, m % 4 = b := ⟨_, rfl⟩
              have hqi : (m : Int) / 4 = (a : Int) := by omega
              have hri : bits BinOp.and IntKind.u64 (m : Int) 3 = (b : Int) := by
                have := u64_and_nat m 3 (by omega) (by decide)
                rw [show m &&& 3 = m % 4 from Nat.and_two_pow_sub_one_eq_mod m 2, hb] at this
                exact this
              have ha9 : a ≤ 9 := by omega
              have hb9 : b < 4 := by omega
              have H2' : Dec w0 (wr.setCell ⟨B, t, none⟩ (.int .u8 ((a : Int) + 48))) B (upd E t (a + 48)) n pp := by
                have := H1.out.set ht8 (a + 48) (by omega)
                simpa using this
              have HL2 : Hid ((t + 1 = 0 → 4 ≤ b * 10) ∧ (1 ≤ t + 1 → 49 ≤ upd E t (a + 48) 0)) := ⟨fun h => absurd h (by omega), fun _ => by
                rcases Nat.eq_zero_or_pos t with h | h
                · have := HL.out.1 h
                  subst h
                  rw [upd_same]; omega
                · rw [upd_other (by omega)]; exact HL.out.2 h⟩
              have HM2 : Hid ((1 ≤ i + 1 → b * 10 % 2 = 0) ∧ (2 ≤ i + 1 → b * 10 % 4 = 0) ∧ (3 ≤ i + 1 → b * 10 % 8 = 0) ∧ (3 ≤ i + 1 → b * 10 = 0)) := by
                obtain ⟨g1, g2, g3, g4⟩ := HM.out
                refine ⟨fun h => ?_, fun h => ?_, fun h => ?_, fun h => ?_⟩ <;> omega
              have H2 := Lib.hid H2'
              have ht2 : Hid (t + 1 = j + (i + 1)) := by have := ht.out; show _ = _; omega
              have ht3 : t ≤ j + 2 := by have := ht.out; omega
              generalize E t = y at *
              clear ha hb H2' HL HM ht
              go_wp2_with fail
              go_roundw
              case rel => exact ⟨i + 1, t + 1, b * 10, _, by go_num, (by congr 1), by omega, by omega, ht2, by omega, HM2, H2, HL2⟩
              case measure => simp [intOf]; omega
end Go.Proofs.YtmhgacgneckboaaGreatDoor

namespace Go.Proofs.YtmhgacgneckboaaGreatDoor
open Go Go.RowKit Dcp Go.Sort Adr
set_option maxHeartbeats 4000000 in
set_option maxRecDepth 100000 in
theorem right3_any (w0 w : World) (B : Nat) (D : Nat → Nat) (n : Nat) (p : Nat) (h : Dec w0 w B D n p) (hn : 1 ≤ n) (hn2 : n ≤ 20) (hnp : n ≤ p) (hp : 16 ≤ p) (hp2 : p ≤ 20) (hD : Dgt D 0 n) (h0 : 49 ≤ D 0) :
    Calls Tryz.prog 132 #[.pointer (some ⟨B, 0, none⟩), .int .u64 3] w fun e w' => e = .returned (.tuple #[]) ∧ ∃ (D' : Nat → Nat) (n' p' : Nat), Dec w0 w' B D' n' p' ∧ 1 ≤ n' ∧ n' ≤ p' + 3 ∧ 1 ≤ p' ∧ p' ≤ 20 := by
  have H0 := Lib.hid h
  have HDg := Lib.hid hD
  clear h hD
  go_enter Tryz.func132, Tryz.ntmps132
  go_wp2_with fail
  go_loopw [4, 6] (fun v4 v6 wr => ∃ r m : Nat, v4 = .int .i64 r ∧ v6 = .int .u64 m ∧ ((r = 0 ∧ m = 0) ∨ (r = 1 ∧ 1 ≤ m ∧ m ≤ 9) ∨ (r = 2 ∧ 10 ≤ m ∧ m < 80)) ∧ r ≤ 2 ∧ wr = w) (fun v4 _ _ => 3 - (intOf v4).toNat)
  case atStart => exact ⟨0, 0, rfl, rfl, Or.inl ⟨rfl, rfl⟩, by omega, rfl⟩
  case round =>
    obtain ⟨r, m, rfl, rfl, hrm, hr2, rfl⟩ := hrel
    have H1 := H0
    clear H0
    have cnd := H1.out.nd
    rcases hrm with ⟨rfl, rfl⟩ | ⟨rfl, hm1, hm2⟩ | ⟨rfl, hm1, hm2⟩
    · have hd0 := HDg.out 0 (Nat.le_refl _) (by omega)
      obtain ⟨d, hd⟩ : ∃ d, D 0 = d + 48 := ⟨D 0 - 48, by omega⟩
      have hd9 : d ≤ 9 := by omega
      have hd1 : 1 ≤ d := by omega
      have c1 : wr.cell? ⟨B, 0, none⟩ = some (.int .u8 ((d : Int) + 48)) := by
        have := H1.out.byt 0 (by omega)
        rw [hd] at this
        simpa using this
      have hn0 : (0 : Int) < (n : Int) := by omega
      have hn0' : ¬ (n : Int) ≤ 0 := by omega
      clear hd hd0 h0
      go_wp2_with fail
      go_roundw
      case rel => exact ⟨1, d, by go_num, (by first | rfl | (congr 1; omega)), Or.inr (Or.inl ⟨rfl, hd1, hd9⟩), by omega, by first | rfl | trivial⟩
      case measure => simp [intOf]
    · by_cases hmk : m < 8
      · have hsh : (m : Int) / 8 = 0 := by omega
        by_cases hn1 : 1 < n
        · have hd0 := HDg.out 1 (Nat.zero_le _) (by omega)
          obtain ⟨d, hd⟩ : ∃ d, D 1 = d + 48 := ⟨D 1 - 48, by omega⟩
          have hd9 : d ≤ 9 := by omega
          have c1 : wr.cell? ⟨B, 1, none⟩ = some (.int .u8 ((d : Int) + 48)) := by
            have := H1.out.byt 1 (by omega)
            rw [hd] at this
            simpa using this
          have hn0 : (1 : Int) < (n : Int) := by omega
          have hn0' : ¬ (n : Int) ≤ 1 := by omega
          clear hd hd0 h0
          go_wp2_with fail
          go_roundw
          case rel => exact ⟨2, m * 10 + d, by go_num, (by congr 1; omega), Or.inr (Or.inr ⟨rfl, by omega, by omega⟩), by omega, by first | rfl | trivial⟩
          case measure => simp [intOf]
        · have hge : (n : Int) ≤ 1 := by omega
          have hm0 : ((m : Int) == 0) = false := by rw [beq_eq_false_iff_ne]; omega
          have hsh2 : ((m : Int) * 10) / 8 ≠ 0 := by omega
          have hsh3 : (((m : Int) * 10) / 8 == 0) = false := by rw [beq_eq_false_iff_ne]; exact hsh2
          go_wp2_with fail
          go_loopw [4, 6] (fun v4 v6 wx => ((v4 = .int .i64 1 ∧ v6 = .int .u64 m) ∨ (v4 = .int .i64 2 ∧ v6 = .int .u64 ((m * 10 : Nat) : Int))) ∧ wx = wr) (fun v4 _ _ => 2 - (intOf v4).toNat)
          case atStart => exact ⟨Or.inl ⟨rfl, rfl⟩, rfl⟩
          case round =>
            obtain ⟨⟨rfl, rfl⟩ | ⟨rfl, rfl⟩, rfl⟩ := hrel
            · go_wp2_with fail
              go_roundw
              case rel => exact ⟨Or.inr ⟨by go_num, (by congr 1)⟩, by first | rfl | trivial⟩
              case measure => simp [intOf]
            · have hmm := hm1
              obtain ⟨m3, hm3⟩ : ∃ m3, m * 10 = m3 := ⟨_, rfl⟩
              rw [hm3]
              have hm4 : 8 ≤ m3 := by omega
              have hm5 : m3 < 80 := by omega
              have hsh4 : (m3 : Int) / 8 ≠ 0 := by omega
              have hsh5 : ((m3 : Int) / 8 == 0) = false := by rw [beq_eq_false_iff_ne]; exact hsh4
              clear hsh hsh2 hsh3 hm0 hm3 hm1 hm2 hmk hmm
              have hpr : (p : Int) - 1 = ((p - 1 : Nat) : Int) := by omega
              have HP := Lib.hid (H1.out.setP ((p - 1 : Nat) : Int))
              obtain ⟨pp, hpp⟩ : ∃ pp, p - 1 = pp := ⟨_, rfl⟩
              rw [hpp] at HP hpr
              have cdp := H1.out.dp
              have fdp := H1.out.fr 801
              go_wp2_with fail
              generalize wr.setCell ⟨B, 801, none⟩ (.int .i64 (pp : Int)) = w2 at *
              clear H1 cdp fdp
              go_loopw [4, 5, 6] (fun v4 v5 v6 wr => ∃ (j m : Nat) (E : Nat → Nat), v4 = .int .i64 (((2 + j : Nat)) : Int) ∧ v5 = .int .i64 j ∧ v6 = .int .u64 m ∧ m < 80 ∧ (j = 0 ∨ 2 + j ≤ n) ∧ Hid (Dec w0 wr B E n pp) ∧ Hid (∀ i, j ≤ i → E i = D i) ∧ Hid ((j = 0 → 8 ≤ m) ∧ (1 ≤ j → 49 ≤ E 0))) (fun v4 _ _ _ => n - (intOf v4).toNat)
              case atStart => exact ⟨0, _, D, by simp, rfl, rfl, by omega, by omega, HP, (fun _ _ => rfl), ⟨fun _ => by omega, fun h => absurd h (by omega)⟩⟩
              case round =>
                obtain ⟨j, m, E, rfl, rfl, rfl, hmq, hj, H1, HS, HL⟩ := hrel
                have cnd := H1.out.nd
                by_cases hlt : 2 + j < n
                · obtain ⟨x, hx⟩ : ∃ x, 2 + j = x := ⟨_, rfl⟩
                  rw [hx] at hlt ⊢
                  have hdx := HDg.out x (Nat.zero_le _) hlt
                  obtain ⟨d, hd⟩ : ∃ d, D x = d + 48 := ⟨D x - 48, by omega⟩
                  have hd9 : d ≤ 9 := by omega
                  have c1 : wr.cell? ⟨B, x, none⟩ = some (.int .u8 ((d : Int) + 48)) := by
                    have := H1.out.byt x (by omega)
                    rw [HS.out x (by omega), hd] at this
                    simpa using this
                  have hj8 : j < 800 := by omega
                  have c2 := H1.out.byt j hj8
                  have f2 := H1.out.fr j
                  obtain ⟨a, ha⟩ : ∃ a, m / 8 = a := ⟨_, rfl⟩
                  obtain ⟨b, hb⟩ : ∃ b, m % 8 = b := ⟨_, rfl⟩
                  have hqi : (m : Int) / 8 = (a : Int) := by omega
                  have hri : bits BinOp.and IntKind.u64 (m : Int) 7 = (b : Int) := by
                    have := u64_and_nat m 7 (by omega) (by decide)
                    rw [show m &&& 7 = m % 8 from Nat.and_two_pow_sub_one_eq_mod m 3, hb] at this
                    exact this
                  have ha9 : a ≤ 9 := by omega
                  have hb9 : b < 8 := by omega
                  have H2' : Dec w0 (wr.setCell ⟨B, j, none⟩ (.int .u8 ((a : Int) + 48))) B (upd E j (a + 48)) n pp := by
                    have := H1.out.set hj8 (a + 48) (by omega)
                    simpa using this
                  have HS2 : Hid (∀ i, j + 1 ≤ i → upd E j (a + 48) i = D i) := fun i hi => by rw [upd_other (by omega)]; exact HS.out i (by omega)
                  have HL2 : Hid ((j + 1 = 0 → 8 ≤ b * 10 + d) ∧ (1 ≤ j + 1 → 49 ≤ upd E j (a + 48) 0)) := ⟨fun h => absurd h (by omega), fun _ => by
                    rcases Nat.eq_zero_or_pos j with h | h
                    · have := HL.out.1 h
                      subst h
                      rw [upd_same]; omega
                    · rw [upd_other (by omega)]; exact HL.out.2 h⟩
                  have H2 := Lib.hid H2'
                  have hxn : (x : Int) < (n : Int) := by omega
                  have hx8 : (x : Int) < 800 := by omega
                  generalize E j = y at *
                  have hxj := Lib.hid hx
                  clear ha hb hd hdx H2' HL HS hx
                  go_wp2_with fail
                  go_roundw
                  case rel => exact ⟨j + 1, b * 10 + d, _, (by congr 1; have := hxj.out; omega), by go_num, (by congr 1; omega), by omega, Or.inr (by have := hxj.out; omega), H2, HS2, HL2⟩
                  case measure => have := hxj.out; simp [intOf]; omega
                · have HJ1 : Hid (j = 0 ∨ j + 2 ≤ n) := by show _ ∨ _; omega
                  have hxn : ¬ (((2 + j : Nat)) : Int) < (n : Int) := by omega
                  obtain ⟨x, hx⟩ : ∃ x, 2 + j = x := ⟨_, rfl⟩
                  rw [hx] at hxn ⊢
                  have hj30 : j ≤ 20 := by omega
                  clear hj hx hlt
                  go_wp2_with fail
                  go_loopw [5, 6] (fun v5 v6 wr => ∃ (i t m : Nat) (E : Nat → Nat), v5 = .int .i64 t ∧ v6 = .int .u64 m ∧ m < 80 ∧ i ≤ 4 ∧ Hid (t = j + i) ∧ t ≤ 30 ∧ Hid ((1 ≤ i → m % 2 = 0) ∧ (2 ≤ i → m % 4 = 0) ∧ (3 ≤ i → m % 8 = 0) ∧ (4 ≤ i → m = 0)) ∧ Hid (Dec w0 wr B E n pp) ∧ Hid ((t = 0 → 8 ≤ m) ∧ (1 ≤ t → 49 ≤ E 0))) (fun v5 _ _ => j + 4 - (intOf v5).toNat)
                  case atStart => exact ⟨0, j, m, E, rfl, rfl, hmq, by omega, rfl, by omega, ⟨fun h => absurd h (by omega), fun h => absurd h (by omega), fun h => absurd h (by omega), fun h => absurd h (by omega)⟩, H1, HL⟩
                  case round =>
                    clear H1 HL HS hmq cnd
                    obtain ⟨i, t, m, E, rfl, rfl, hmq, hi, ht, ht30, HM, H1, HL⟩ := hrel
                    rcases Nat.eq_zero_or_pos m with hm0 | hm0
                    · subst hm0
                      have ht1 : 1 ≤ t := by
                        rcases Nat.eq_zero_or_pos t with h | h
                        · have := HL.out.1 h; omega
                        · exact h
                      have cnd := H1.out.nd
                      have fnd := H1.out.fr 800
                      have HT := Lib.hid (trimD_any w0 _ B E t pp (H1.out.setN t) ht1 (by omega) (HL.out.2 ht1))
                      go_wp2_with fail
                      refine HT.out.mono ?_
                      rintro e w3 ⟨rfl, m2, hm1, hm2, h4⟩
                      have HD4 := Lib.hid h4
                      clear h4 HT
                      go_wp2_with fail
                      go_end0
                      exact ⟨rfl, E, m2, pp, HD4.out, hm1, (by have := ht.out; have := HJ1.out; omega), by omega, by omega⟩
                    · have hm1 : (0 : Int) < (m : Int) := by omega
                      have hik : i ≤ 3 := by
                        rcases Nat.lt_or_ge i 4 with h | h
                        · omega
                        · have := HM.out.2.2.2 h; omega
                      have ht8 : t < 800 := by omega
                      have ht8i : (t : Int) < 800 := by omega
                      have c2 := H1.out.byt t ht8
                      have f2 := H1.out.fr t
                      obtain ⟨a, ha⟩ : ∃ a, m / 8 = a := ⟨_, rfl⟩
                      obtain ⟨b, hb⟩ : ∃ b, m % 8 = b := ⟨_, rfl⟩
                      have hqi : (m : Int) / 8 = (a : Int) := by omega
                      have hri : bits BinOp.and IntKind.u64 (m : Int) 7 = (b : Int) := by
                        have := u64_and_nat m 7 (by omega) (by decide)
                        rw [show m &&& 7 = m % 8 from Nat.and_two_pow_sub_one_eq_mod m 3, hb] at this
                        exact this
                      have ha9 : a ≤ 9 := by omega
                      have hb9 : b < 8 := by omega
                      have H2' : Dec w0 (wr.setCell ⟨B, t, none⟩ (.int .u8 ((a : Int) + 48))) B (upd E t (a + 48)) n pp := by
                        have := H1.out.set ht8 (a + 48) (by omega)
                        simpa using this
                      have HL2 : Hid ((t + 1 = 0 → 8 ≤ b * 10) ∧ (1 ≤ t + 1 → 49 ≤ upd E t (a + 48) 0)) := ⟨fun h => absurd h (by omega), fun _ => by
                        rcases Nat.eq_zero_or_pos t with h | h
                        · have := HL.out.1 h
                          subst h
                          rw [upd_same]; omega
                        · rw [upd_other (by omega)]; exact HL.out.2 h⟩
                      have HM2 : Hid ((1 ≤ i + 1 → b * 10 % 2 = 0) ∧ (2 ≤ i + 1 → b * 10 % 4 = 0) ∧ (3 ≤ i + 1 → b * 10 % 8 = 0) ∧ (4 ≤ i + 1 → b * 10 = 0)) := by
                        obtain ⟨g1, g2, g3, g4⟩ := HM.out
                        refine ⟨fun h => ?_, fun h => ?_, fun h => ?_, fun h => ?_⟩ <;> omega
                      have H2 := Lib.hid H2'
                      have ht2 : Hid (t + 1 = j + (i + 1)) := by have := ht.out; show _ = _; omega
                      have ht3 : t ≤ j + 3 := by have := ht.out; omega
                      generalize E t = y at *
                      clear ha hb H2' HL HM ht
                      go_wp2_with fail
                      go_roundw
                      case rel => exact ⟨i + 1, t + 1, b * 10, _, by go_num, (by congr 1), by omega, by omega, ht2, by omega, HM2, H2, HL2⟩
                      case measure => simp [intOf]; omega
      · have hsh : (m : Int) / 8 ≠ 0 := by omega
        have hsh2 : ((m : Int) / 8 == 0) = false := by rw [beq_eq_false_iff_ne]; exact hsh
        have hmk2 : 8 ≤ m := by omega
        have hm3 : m < 80 := by omega
        clear hmk
        have hpr : (p : Int) - 0 = ((p - 0 : Nat) : Int) := by omega
        have HP := Lib.hid (H1.out.setP ((p - 0 : Nat) : Int))
        obtain ⟨pp, hpp⟩ : ∃ pp, p - 0 = pp := ⟨_, rfl⟩
        rw [hpp] at HP hpr
        have cdp := H1.out.dp
        have fdp := H1.out.fr 801
        go_wp2_with fail
        generalize wr.setCell ⟨B, 801, none⟩ (.int .i64 (pp : Int)) = w2 at *
        clear H1 cdp fdp
        go_loopw [4, 5, 6] (fun v4 v5 v6 wr => ∃ (j m : Nat) (E : Nat → Nat), v4 = .int .i64 (((1 + j : Nat)) : Int) ∧ v5 = .int .i64 j ∧ v6 = .int .u64 m ∧ m < 80 ∧ (j = 0 ∨ 1 + j ≤ n) ∧ Hid (Dec w0 wr B E n pp) ∧ Hid (∀ i, j ≤ i → E i = D i) ∧ Hid ((j = 0 → 8 ≤ m) ∧ (1 ≤ j → 49 ≤ E 0))) (fun v4 _ _ _ => n - (intOf v4).toNat)
        case atStart => exact ⟨0, _, D, by simp, rfl, rfl, by omega, by omega, HP, (fun _ _ => rfl), ⟨fun _ => by omega, fun h => absurd h (by omega)⟩⟩
        case round =>
          obtain ⟨j, m, E, rfl, rfl, rfl, hmq, hj, H1, HS, HL⟩ := hrel
          have cnd := H1.out.nd
          by_cases hlt : 1 + j < n
          · obtain ⟨x, hx⟩ : ∃ x, 1 + j = x := ⟨_, rfl⟩
            rw [hx] at hlt ⊢
            have hdx := HDg.out x (Nat.zero_le _) hlt
            obtain ⟨d, hd⟩ : ∃ d, D x = d + 48 := ⟨D x - 48, by omega⟩
            have hd9 : d ≤ 9 := by omega
            have c1 : wr.cell? ⟨B, x, none⟩ = some (.int .u8 ((d : Int) + 48)) := by
              have := H1.out.byt x (by omega)
              rw [HS.out x (by omega), hd] at this
              simpa using this
            have hj8 : j < 800 := by omega
            have c2 := H1.out.byt j hj8
            have f2 := H1.out.fr j
            obtain ⟨a, ha⟩ : ∃ a, m / 8 = a := ⟨_, rfl⟩
            obtain ⟨b, hb⟩ : ∃ b, m % 8 = b := ⟨_, rfl⟩
            have hqi : (m : Int) / 8 = (a : Int) := by omega
            have hri : bits BinOp.and IntKind.u64 (m : Int) 7 = (b : Int) := by
              have := u64_and_nat m 7 (by omega) (by decide)
              rw [show m &&& 7 = m % 8 from Nat.and_two_pow_sub_one_eq_mod m 3, hb] at this
              exact this
            have ha9 : a ≤ 9 := by omega
            have hb9 : b < 8 := by omega
            have H2' : Dec w0 (wr.setCell ⟨B, j, none⟩ (.int .u8 ((a : Int) + 48))) B (upd E j (a + 48)) n pp := by
              have := H1.out.set hj8 (a + 48) (by omega)
              simpa using this
            have HS2 : Hid (∀ i, j + 1 ≤ i → upd E j (a + 48) i = D i) := fun i hi => by rw [upd_other (by omega)]; exact HS.out i (by omega)
            have HL2 : Hid ((j + 1 = 0 → 8 ≤ b * 10 + d) ∧ (1 ≤ j + 1 → 49 ≤ upd E j (a + 48) 0)) := ⟨fun h => absurd h (by omega), fun _ => by
              rcases Nat.eq_zero_or_pos j with h | h
              · have := HL.out.1 h
                subst h
                rw [upd_same]; omega
              · rw [upd_other (by omega)]; exact HL.out.2 h⟩
            have H2 := Lib.hid H2'
            have hxn : (x : Int) < (n : Int) := by omega
            have hx8 : (x : Int) < 800 := by omega
            generalize E j = y at *
            have hxj := Lib.hid hx
            clear ha hb hd hdx H2' HL HS hx
            go_wp2_with fail
            go_roundw
            case rel => exact ⟨j + 1, b * 10 + d, _, (by congr 1; have := hxj.out; omega), by go_num, (by congr 1; omega), by omega, Or.inr (by have := hxj.out; omega), H2, HS2, HL2⟩
            case measure => have := hxj.out; simp [intOf]; omega
          · have HJ1 : Hid (j = 0 ∨ j + 1 ≤ n) := by show _ ∨ _; omega
            have hxn : ¬ (((1 + j : Nat)) : Int) < (n : Int) := by omega
            obtain ⟨x, hx⟩ : ∃ x, 1 + j = x := ⟨_, rfl⟩
            rw [hx] at hxn ⊢
            have hj30 : j ≤ 20 := by omega
            clear hj hx hlt
            go_wp2_with fail
            go_loopw [5, 6] (fun v5 v6 wr => ∃ (i t m : Nat) (E : Nat → Nat), v5 = .int .i64 t ∧ v6 = .int .u64 m ∧ m < 80 ∧ i ≤ 4 ∧ Hid (t = j + i) ∧ t ≤ 30 ∧ Hid ((1 ≤ i → m % 2 = 0) ∧ (2 ≤ i → m % 4 = 0) ∧ (3 ≤ i → m % 8 = 0) ∧ (4 ≤ i → m = 0)) ∧ Hid (Dec w0 wr B E n pp) ∧ Hid ((t = 0 → 8 ≤ m) ∧ (1 ≤ t → 49 ≤ E 0))) (fun v5 _ _ => j + 4 - (intOf v5).toNat)
            case atStart => exact ⟨0, j, m, E, rfl, rfl, hmq, by omega, rfl, by omega, ⟨fun h => absurd h (by omega), fun h => absurd h (by omega), fun h => absurd h (by omega), fun h => absurd h (by omega)⟩, H1, HL⟩
            case round =>
              clear H1 HL HS hmq cnd
              obtain ⟨i, t, m, E, rfl, rfl, hmq, hi, ht, ht30, HM, H1, HL⟩ := hrel
              rcases Nat.eq_zero_or_pos m with hm0 | hm0
              · subst hm0
                have ht1 : 1 ≤ t := by
                  rcases Nat.eq_zero_or_pos t with h | h
                  · have := HL.out.1 h; omega
                  · exact h
                have cnd := H1.out.nd
                have fnd := H1.out.fr 800
                have HT := Lib.hid (trimD_any w0 _ B E t pp (H1.out.setN t) ht1 (by omega) (HL.out.2 ht1))
                go_wp2_with fail
                refine HT.out.mono ?_
                rintro e w3 ⟨rfl, m2, hm1, hm2, h4⟩
                have HD4 := Lib.hid h4
                clear h4 HT
                go_wp2_with fail
                go_end0
                exact ⟨rfl, E, m2, pp, HD4.out, hm1, (by have := ht.out; have := HJ1.out; omega), by omega, by omega⟩
              · have hm1 : (0 : Int) < (m : Int) := by omega
                have hik : i ≤ 3 := by
                  rcases Nat.lt_or_ge i 4 with h | h
                  · omega
                  · have := HM.out.2.2.2 h; omega
                have ht8 : t < 800 := by omega
                have ht8i : (t : Int) < 800 := by omega
                have c2 := H1.out.byt t ht8
                have f2 := H1.out.fr t
                obtain ⟨a, ha⟩ : ∃ a, m / 8 = a := ⟨_, rfl⟩
                obtain ⟨b, hb⟩ : ∃ b, m % 8 = b := ⟨_, rfl⟩
                have hqi : (m : Int) / 8 = (a : Int) := by omega
                have hri : bits BinOp.and IntKind.u64 (m : Int) 7 = (b : Int) := by
                  have := u64_and_nat m 7 (by omega) (by decide)
                  rw [show m &&& 7 = m % 8 from Nat.and_two_pow_sub_one_eq_mod m 3, hb] at this
                  exact this
                have ha9 : a ≤ 9 := by omega
                have hb9 : b < 8 := by omega
                have H2' : Dec w0 (wr.setCell ⟨B, t, none⟩ (.int .u8 ((a : Int) + 48))) B (upd E t (a + 48)) n pp := by
                  have := H1.out.set ht8 (a + 48) (by omega)
                  simpa using this
                have HL2 : Hid ((t + 1 = 0 → 8 ≤ b * 10) ∧ (1 ≤ t + 1 → 49 ≤ upd E t (a + 48) 0)) := ⟨fun h => absurd h (by omega), fun _ => by
                  rcases Nat.eq_zero_or_pos t with h | h
                  · have := HL.out.1 h
                    subst h
                    rw [upd_same]; omega
                  · rw [upd_other (by omega)]; exact HL.out.2 h⟩
                have HM2 : Hid ((1 ≤ i + 1 → b * 10 % 2 = 0) ∧ (2 ≤ i + 1 → b * 10 % 4 = 0) ∧ (3 ≤ i + 1 → b * 10 % 8 = 0) ∧ (4 ≤ i + 1 → b * 10 = 0)) := by
                  obtain ⟨g1, g2, g3, g4⟩ := HM.out
                  refine ⟨fun h => ?_, fun h => ?_, fun h => ?_, fun h => ?_⟩ <;> omega
                have H2 := Lib.hid H2'
                have ht2 : Hid (t + 1 = j + (i + 1)) := by have := ht.out; show _ = _; omega
                have ht3 : t ≤ j + 3 := by have := ht.out; omega
                generalize E t = y at *
                clear ha hb H2' HL HM ht
                go_wp2_with fail
                go_roundw
                case rel => exact ⟨i + 1, t + 1, b * 10, _, by go_num, (by congr 1), by omega, by omega, ht2, by omega, HM2, H2, HL2⟩
                case measure => simp [intOf]; omega
    · have hsh : (m : Int) / 8 ≠ 0 := by omega
      have hsh2 : ((m : Int) / 8 == 0) = false := by rw [beq_eq_false_iff_ne]; exact hsh
      have hmk2 : 8 ≤ m := by omega
      have hpr : (p : Int) - 1 = ((p - 1 : Nat) : Int) := by omega
      have HP := Lib.hid (H1.out.setP ((p - 1 : Nat) : Int))
      obtain ⟨pp, hpp⟩ : ∃ pp, p - 1 = pp := ⟨_, rfl⟩
      rw [hpp] at HP hpr
      have cdp := H1.out.dp
      have fdp := H1.out.fr 801
      go_wp2_with fail
      generalize wr.setCell ⟨B, 801, none⟩ (.int .i64 (pp : Int)) = w2 at *
      clear H1 cdp fdp
      go_loopw [4, 5, 6] (fun v4 v5 v6 wr => ∃ (j m : Nat) (E : Nat → Nat), v4 = .int .i64 (((2 + j : Nat)) : Int) ∧ v5 = .int .i64 j ∧ v6 = .int .u64 m ∧ m < 80 ∧ (j = 0 ∨ 2 + j ≤ n) ∧ Hid (Dec w0 wr B E n pp) ∧ Hid (∀ i, j ≤ i → E i = D i) ∧ Hid ((j = 0 → 8 ≤ m) ∧ (1 ≤ j → 49 ≤ E 0))) (fun v4 _ _ _ => n - (intOf v4).toNat)
      case atStart => exact ⟨0, _, D, by simp, rfl, rfl, by omega, by omega, HP, (fun _ _ => rfl), ⟨fun _ => by omega, fun h => absurd h (by omega)⟩⟩
      case round =>
        obtain ⟨j, m, E, rfl, rfl, rfl, hmq, hj, H1, HS, HL⟩ := hrel
        have cnd := H1.out.nd
        by_cases hlt : 2 + j < n
        · obtain ⟨x, hx⟩ : ∃ x, 2 + j = x := ⟨_, rfl⟩
          rw [hx] at hlt ⊢
          have hdx := HDg.out x (Nat.zero_le _) hlt
          obtain ⟨d, hd⟩ : ∃ d, D x = d + 48 := ⟨D x - 48, by omega⟩
          have hd9 : d ≤ 9 := by omega
          have c1 : wr.cell? ⟨B, x, none⟩ = some (.int .u8 ((d : Int) + 48)) := by
            have := H1.out.byt x (by omega)
            rw [HS.out x (by omega), hd] at this
            simpa using this
          have hj8 : j < 800 := by omega
          have c2 := H1.out.byt j hj8
          have f2 := H1.out.fr j
          obtain ⟨a, ha⟩ : ∃ a, m / 8 = a := ⟨_, rfl⟩
          obtain ⟨b, hb⟩ : ∃ b, m % 8 = b := ⟨_, rfl⟩
          have hqi : (m : Int) / 8 = (a : Int) := by omega
          have hri : bits BinOp.and IntKind.u64 (m : Int) 7 = (b : Int) := by
            have := u64_and_nat m 7 (by omega) (by decide)
            rw [show m &&& 7 = m % 8 from Nat.and_two_pow_sub_one_eq_mod m 3, hb] at this
            exact this
          have ha9 : a ≤ 9 := by omega
          have hb9 : b < 8 := by omega
          have H2' : Dec w0 (wr.setCell ⟨B, j, none⟩ (.int .u8 ((a : Int) + 48))) B (upd E j (a + 48)) n pp := by
            have := H1.out.set hj8 (a + 48) (by omega)
            simpa using this
          have HS2 : Hid (∀ i, j + 1 ≤ i → upd E j (a + 48) i = D i) := fun i hi => by rw [upd_other (by omega)]; exact HS.out i (by omega)
          have HL2 : Hid ((j + 1 = 0 → 8 ≤ b * 10 + d) ∧ (1 ≤ j + 1 → 49 ≤ upd E j (a + 48) 0)) := ⟨fun h => absurd h (by omega), fun _ => by
            rcases Nat.eq_zero_or_pos j with h | h
            · have := HL.out.1 h
              subst h
              rw [upd_same]; omega
            · rw [upd_other (by omega)]; exact HL.out.2 h⟩
          have H2 := Lib.hid H2'
          have hxn : (x : Int) < (n : Int) := by omega
          have hx8 : (x : Int) < 800 := by omega
          generalize E j = y at *
          have hxj := Lib.hid hx
          clear ha hb hd hdx H2' HL HS hx
          go_wp2_with fail
          go_roundw
          case rel => exact ⟨j + 1, b * 10 + d, _, (by congr 1; have := hxj.out; omega), by go_num, (by congr 1; omega), by omega, Or.inr (by have := hxj.out; omega), H2, HS2, HL2⟩
          case measure => have := hxj.out; simp [intOf]; omega
        · have HJ1 : Hid (j = 0 ∨ j + 2 ≤ n) := by show _ ∨ _; omega
          have hxn : ¬ (((2 + j : Nat)) : Int) < (n : Int) := by omega
          obtain ⟨x, hx⟩ : ∃ x, 2 + j = x := ⟨_, rfl⟩
          rw [hx] at hxn ⊢
          have hj30 : j ≤ 20 := by omega
          clear hj hx hlt
          go_wp2_with fail
          go_loopw [5, 6] (fun v5 v6 wr => ∃ (i t m : Nat) (E : Nat → Nat), v5 = .int .i64 t ∧ v6 = .int .u64 m ∧ m < 80 ∧ i ≤ 4 ∧ Hid (t = j + i) ∧ t ≤ 30 ∧ Hid ((1 ≤ i → m % 2 = 0) ∧ (2 ≤ i → m % 4 = 0) ∧ (3 ≤ i → m % 8 = 0) ∧ (4 ≤ i → m = 0)) ∧ Hid (Dec w0 wr B E n pp) ∧ Hid ((t = 0 → 8 ≤ m) ∧ (1 ≤ t → 49 ≤ E 0))) (fun v5 _ _ => j + 4 - (intOf v5).toNat)
          case atStart => exact ⟨0, j, m, E, rfl, rfl, hmq, by omega, rfl, by omega, ⟨fun h => absurd h (by omega), fun h => absurd h (by omega), fun h => absurd h (by omega), fun h => absurd h (by omega)⟩, H1, HL⟩
          case round =>
            clear H1 HL HS hmq cnd
            obtain ⟨i, t, m, E, rfl, rfl, hmq, hi, ht, ht30, HM, H1, HL⟩ := hrel
            rcases Nat.eq_zero_or_pos m with hm0 | hm0
            · subst hm0
              have ht1 : 1 ≤ t := by
                rcases Nat.eq_zero_or_pos t with h | h
                · have := HL.out.1 h; omega
                · exact h
              have cnd := H1.out.nd
              have fnd := H1.out.fr 800
              have HT := Lib.hid (trimD_any w0 _ B E t pp (H1.out.setN t) ht1 (by omega) (HL.out.2 ht1))
              go_wp2_with fail
              refine HT.out.mono ?_
              rintro e w3 ⟨rfl, m2, hm1, hm2, h4⟩
              have HD4 := Lib.hid h4
              clear h4 HT
              go_wp2_with fail
              go_end0
              exact ⟨rfl, E, m2, pp, HD4.out, hm1, (by have := ht.out; have := HJ1.out; omega), by omega, by omega⟩
            · have hm1 : (0 : Int) < (m : Int) := by omega
              have hik : i ≤ 3 := by
                rcases Nat.lt_or_ge i 4 with h | h
                · omega
                · have := HM.out.2.2.2 h; omega
              have ht8 : t < 800 := by omega
              have ht8i : (t : Int) < 800 := by omega
              have c2 := H1.out.byt t ht8
              have f2 := H1.out.fr t
              obtain ⟨a, ha⟩ : ∃ a, m / 8 = a := ⟨_, rfl⟩
              obtain ⟨b, hb⟩ : ∃ b, m % 8 = b := ⟨_, rfl⟩
              have hqi : (m : Int) / 8 = (a : Int) := by omega
              have hri : bits BinOp.and IntKind.u64 (m : Int) 7 = (b : Int) := by
                have := u64_and_nat m 7 (by omega) (by decide)
                rw [show m &&& 7 = m % 8 from Nat.and_two_pow_sub_one_eq_mod m 3, hb] at this
                exact this
              have ha9 : a ≤ 9 := by omega
              have hb9 : b < 8 := by omega
              have H2' : Dec w0 (wr.setCell ⟨B, t, none⟩ (.int .u8 ((a : Int) + 48))) B (upd E t (a + 48)) n pp := by
                have := H1.out.set ht8 (a + 48) (by omega)
                simpa using this
              have HL2 : Hid ((t + 1 = 0 → 8 ≤ b * 10) ∧ (1 ≤ t + 1 → 49 ≤ upd E t (a + 48) 0)) := ⟨fun h => absurd h (by omega), fun _ => by
                rcases Nat.eq_zero_or_pos t with h | h
                · have := HL.out.1 h
                  subst h
                  rw [upd_same]; omega
                · rw [upd_other (by omega)]; exact HL.out.2 h⟩
              have HM2 : Hid ((1 ≤ i + 1 → b * 10 % 2 = 0) ∧ (2 ≤ i + 1 → b * 10 % 4 = 0) ∧ (3 ≤ i + 1 → b * 10 % 8 = 0) ∧ (4 ≤ i + 1 → b * 10 = 0)) := by
                obtain ⟨g1, g2, g3, g4⟩ := HM.out
                refine ⟨fun h => ?_, fun h => ?_, fun h => ?_, fun h => ?_⟩ <;> omega
              have H2 := Lib.hid H2'
              have ht2 : Hid (t + 1 = j + (i + 1)) := by have := ht.out; show _ = _; omega
              have ht3 : t ≤ j + 3 := by have := ht.out; omega
              generalize E t = y at *
              clear ha hb H2' HL HM ht
              go_wp2_with fail
              go_roundw
              case rel => exact ⟨i + 1, t + 1, b * 10, _, by go_num, (by congr 1), by omega, by omega, ht2, by omega, HM2, H2, HL2⟩
              case measure => simp [intOf]; omega
end Go.Proofs.YtmhgacgneckboaaGreatDoor
