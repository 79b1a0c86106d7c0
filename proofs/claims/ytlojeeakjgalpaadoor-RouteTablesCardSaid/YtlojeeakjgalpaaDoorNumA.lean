/- A walk: addr.Num, by the shelf's contracts of strconv.Atoi and strconv.Itoa. -/
import Derived.Test.YtlojeeakjgalpaaDoorShelf
import Derived.Test.YtlojeeakjgalpaaDoorEnv
import Derived.Test.YtlojeeakjgalpaaDoorNumW
import Derived.Lib.AtoiAllCases
namespace Adr
open Go Go.Lib
def numIn (l : List UInt8) (least most : Int) : Bool := decide (0 ≤ num l) && decide (least ≤ num l) && decide (num l ≤ most)
theorem numIn_iff (l : List UInt8) (least most : Int) : numIn l least most = true ↔ 0 ≤ num l ∧ least ≤ num l ∧ num l ≤ most := by
  unfold numIn; simp only [Bool.and_eq_true, decide_eq_true_eq]; omega
theorem numIn_not {l : List UInt8} {least most : Int} (h : ¬ (0 ≤ num l ∧ least ≤ num l ∧ num l ≤ most)) : numIn l least most = false := by
  rw [Bool.eq_false_iff]; exact fun e => h ((numIn_iff _ _ _).1 e)
theorem num_bad (l : List UInt8) (h : ∀ v, atoiAll l ≠ .ok v) : num l = -1 := by
  refine num_of_not ?_
  rw [Bool.eq_false_iff]
  exact fun e => h _ (atoi_canon l e)
/-- What Atoi gives, where the text is a number's. -/
theorem num_ok (l : List UInt8) (v : Int) (h : atoiAll l = .ok v) : (num l = v ∧ l.length ≤ 10 ∧ 0 ≤ v ∧ itoa v = l) ∨ (num l = -1 ∧ (10 < l.length ∨ v < 0 ∨ itoa v ≠ l)) := by
  cases hc : canon l with
  | true =>
    left
    have h1 := atoi_canon l hc
    rw [h] at h1
    injection h1 with h1
    subst h1
    exact ⟨num_of_canon hc, ((canon_iff l).1 hc).2.1, by omega, itoa_val l hc⟩
  | false =>
    right
    refine ⟨num_of_not hc, ?_⟩
    by_cases h1 : 10 < l.length
    · exact .inl h1
    · by_cases h2 : v < 0
      · exact .inr (.inl h2)
      · refine .inr (.inr fun e => ?_)
        rw [(canon_of_itoa l v (by omega) (by omega) e).1] at hc
        cases hc
end Adr
namespace Go.Proofs.YtlojeeakjgalpaaDoor
open Go.RowKit

/-- What addr.Num gives. -/
def numRet (s : ByteArray) (least most : Int) : Value := .tuple #[.int .i64 (if Adr.numIn s.data.toList least most then Adr.num s.data.toList else 0), .bool (Adr.numIn s.data.toList least most)]
theorem numRet_yes {s : ByteArray} {least most : Int} (h : Adr.numIn s.data.toList least most = true) : numRet s least most = .tuple #[.int .i64 (Adr.num s.data.toList), .bool true] := by
  unfold numRet; rw [h]; rfl
theorem numRet_no {s : ByteArray} {least most : Int} (h : Adr.numIn s.data.toList least most = false) : numRet s least most = .tuple #[.int .i64 0, .bool false] := by
  unfold numRet; rw [h]; rfl

theorem atoi_bad (s : ByteArray) (w : World) (hE : Env w) (hs : s.size ≤ 281474976710656) (h : ∀ v, Lib.atoiAll s.data.toList ≠ .ok v) :
    Calls Tryd.prog 55 #[.string s] w fun e w' => ∃ v p, e = .returned (.tuple #[.int .i64 v, .iface 96 p]) ∧ Below w.heap.size w w' := by
  rcases hA : Lib.atoiAll s.data.toList with v | _ | _
  · exact absurd hA (h v)
  · obtain ⟨tp, p, hv⟩ := hE.es
    exact (Any.strconv_Atoi_syntax Tryd.laysC172 s hs hA _ w hv (.inr ⟨tp, p, rfl⟩)).mono fun _ _ ⟨N, he, _, _, hb⟩ => ⟨_, _, he, hb⟩
  · obtain ⟨tp, p, hv⟩ := hE.er
    exact (Any.strconv_Atoi_range Tryd.laysC172 s hs hA _ w hv (.inr ⟨tp, p, rfl⟩)).mono fun _ _ ⟨N, he, _, _, hb⟩ => ⟨_, _, he, hb⟩
theorem atoi_ok (s : ByteArray) (w : World) (v : Int) (hs : s.size ≤ 281474976710656) (h : Lib.atoiAll s.data.toList = .ok v) :
    Calls Tryd.prog 55 #[.string s] w fun e w' => e = .returned (.tuple #[.int .i64 v, .nilIface]) ∧ Below w.heap.size w w' :=
  (Tryd.strconv_Atoi_ok s (by omega) v h w).mono fun _ _ ⟨he, hw⟩ => ⟨he, by
    rcases hw with rfl | ⟨t, rfl⟩
    · exact Below.refl _ _
    · exact Lib.bytesWorld_below _ _ _⟩
theorem itoa_any (n : Int) (w : World) (hE : Env w) (h0 : -9223372036854775808 ≤ n) (h1 : n ≤ 9223372036854775807) :
    Calls Tryd.prog 46 #[.int .i64 n] w fun e w' => e = .returned (.string ⟨(Lib.itoa n).toArray⟩) ∧ Below w.heap.size w w' :=
  (Tryd.strconv_Itoa n h0 h1 w hE.tb).mono fun _ _ ⟨he, k, os, hw⟩ => ⟨he, by rw [hw]; exact Lib.below_grow _ _ (Nat.le_refl _) _ _⟩

theorem str_ne {l : List UInt8} {s : ByteArray} (h : l ≠ s.data.toList) : (l == s.toList) = false := by
  rw [beq_eq_false_iff_ne, Lib.toList_data]; exact h

set_option maxHeartbeats 1000000 in
theorem num_any (s : ByteArray) (least most : Int) (w : World) (hE : Env w) (hs : s.size ≤ 281474976710656) :
    Calls Tryd.prog 44 #[.string s, .int .i64 least, .int .i64 most] w fun e w' => e = .returned (numRet s least most) ∧ Below w.heap.size w w' := by
  by_cases hok : ∃ v, Lib.atoiAll s.data.toList = .ok v
  · obtain ⟨v, hA⟩ := hok
    obtain ⟨hb0, hb1⟩ := Lib.atoiAll_bounds hA
    have hsz := size_data s
    rcases Adr.num_ok _ _ hA with ⟨hn, hl, hv0, hi⟩ | ⟨hn, hbad⟩
    · have HA := Lib.hid hA; clear hA
      have Hi := Lib.hid hi; clear hi
      rw [hsz] at hl; clear hsz
      by_cases hin : least ≤ v ∧ v ≤ most
      · obtain ⟨hi1, hi2⟩ := hin
        have HR := Lib.hid (numRet_yes ((Adr.numIn_iff s.data.toList least most).2 (by rw [hn]; omega)))
        have Hn := Lib.hid hn; clear hn
        rcases Int.lt_or_le least 0 with hneg | hneg
        all_goals
          go_enter Tryd.func44, Tryd.ntmps44
          go_wp2_with fail
          refine (atoi_ok s _ v hs HA.out).mono ?_
          rintro e w1 ⟨rfl, hb1'⟩
          go_wp2_with fail
          refine (itoa_any v _ (hE.below hb1') hb0 hb1).mono ?_
          rintro e w2 ⟨rfl, hb2'⟩
          rw [Hi.out, mk_data]
          go_wp2_with fail
          go_ret2
          exact ⟨by rw [HR.out, Hn.out]; rfl, below_step hb1' hb2'⟩
      · have HR := Lib.hid (numRet_no (Adr.numIn_not (l := s.data.toList) (least := least) (most := most) (by rw [hn]; omega)))
        have Hn := Lib.hid hn; clear hn
        by_cases hi1 : least ≤ v
        · have hi2 : most < v := by omega
          clear hin
          rcases Int.lt_or_le least 0 with hneg | hneg
          all_goals
            go_enter Tryd.func44, Tryd.ntmps44
            go_wp2_with fail
            refine (atoi_ok s _ v hs HA.out).mono ?_
            rintro e w1 ⟨rfl, hb1'⟩
            go_wp2_with fail
            go_ret2
            exact ⟨by rw [HR.out]; rfl, hb1'⟩
        · have hi2 : v < least := by omega
          have hneg : 0 ≤ least := by omega
          clear hin hi1
          go_enter Tryd.func44, Tryd.ntmps44
          go_wp2_with fail
          refine (atoi_ok s _ v hs HA.out).mono ?_
          rintro e w1 ⟨rfl, hb1'⟩
          go_wp2_with fail
          go_ret2
          exact ⟨by rw [HR.out]; rfl, hb1'⟩
    · have HA := Lib.hid hA; clear hA
      have HR := Lib.hid (numRet_no (Adr.numIn_not (l := s.data.toList) (least := least) (most := most) (by rw [hn]; omega)))
      clear hn
      rw [hsz] at hbad; clear hsz
      by_cases hl : 10 < s.size
      · clear hbad
        go_enter Tryd.func44, Tryd.ntmps44
        go_wp2_with fail
        refine (atoi_ok s _ v hs HA.out).mono ?_
        rintro e w1 ⟨rfl, hb1'⟩
        go_wp2_with fail
        go_ret2
        exact ⟨by rw [HR.out]; rfl, hb1'⟩
      · have hl' : s.size ≤ 10 := by omega
        by_cases hv : v < 0
        · clear hbad hl
          rcases Int.lt_or_le least 0 with hneg | hneg
          all_goals
            go_enter Tryd.func44, Tryd.ntmps44
            go_wp2_with fail
            refine (atoi_ok s _ v hs HA.out).mono ?_
            rintro e w1 ⟨rfl, hb1'⟩
            go_wp2_with fail
            go_ret2
            exact ⟨by rw [HR.out]; rfl, hb1'⟩
        · have hv' : 0 ≤ v := by omega
          have hne := Lib.hid (str_ne (hbad.resolve_left hl |>.resolve_left hv))
          clear hbad hl hv
          rcases Int.lt_or_le v least with h1 | h1
          · have hneg : 0 ≤ least := by omega
            go_enter Tryd.func44, Tryd.ntmps44
            go_wp2_with fail
            refine (atoi_ok s _ v hs HA.out).mono ?_
            rintro e w1 ⟨rfl, hb1'⟩
            go_wp2_with fail
            go_ret2
            exact ⟨by rw [HR.out]; rfl, hb1'⟩
          · rcases Int.lt_or_le most v with h2 | h2
            · rcases Int.lt_or_le least 0 with hneg | hneg
              all_goals
                go_enter Tryd.func44, Tryd.ntmps44
                go_wp2_with fail
                refine (atoi_ok s _ v hs HA.out).mono ?_
                rintro e w1 ⟨rfl, hb1'⟩
                go_wp2_with fail
                go_ret2
                exact ⟨by rw [HR.out]; rfl, hb1'⟩
            · rcases Int.lt_or_le least 0 with hneg | hneg
              all_goals
                go_enter Tryd.func44, Tryd.ntmps44
                go_wp2_with fail
                refine (atoi_ok s _ v hs HA.out).mono ?_
                rintro e w1 ⟨rfl, hb1'⟩
                go_wp2_with fail
                refine (itoa_any v _ (hE.below hb1') hb0 hb1).mono ?_
                rintro e w2 ⟨rfl, hb2'⟩
                have hne' := hne.out
                go_wp2_with fail
                go_ret2
                exact ⟨by rw [HR.out]; rfl, below_step hb1' hb2'⟩
  · have HR := Lib.hid (numRet_no (Adr.numIn_not (l := s.data.toList) (least := least) (most := most) (by rw [Adr.num_bad _ (fun v e => hok ⟨v, e⟩)]; omega)))
    go_enter Tryd.func44, Tryd.ntmps44
    go_wp2_with fail
    refine (atoi_bad s _ hE hs (fun v e => hok ⟨v, e⟩)).mono ?_
    rintro e w1 ⟨v, p, rfl, hb1'⟩
    clear hok
    go_wp2_with fail
    go_ret2
    exact ⟨by rw [HR.out]; rfl, hb1'⟩
end Go.Proofs.YtlojeeakjgalpaaDoor
