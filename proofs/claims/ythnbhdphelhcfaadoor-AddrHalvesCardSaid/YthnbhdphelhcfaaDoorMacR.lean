/- Walks: a hardware address of a text: the program's and the reference's. -/
import Derived.Test.YthnbhdphelhcfaaDoorMacW
namespace Adr
open Go
def mTo (L : List (List UInt8)) (k : Nat) : Int := (L.take k).foldl mstep 0
theorem mTo_zero (L : List (List UInt8)) : mTo L 0 = 0 := by unfold mTo; rw [List.take_zero]; rfl
theorem mTo_succ (L : List (List UInt8)) (k : Nat) (h : k < L.length) : mTo L (k + 1) = mstep (mTo L k) L[k] := by
  unfold mTo
  rw [List.take_succ_eq_append_getElem h, List.foldl_append]; rfl
theorem mstep_neg (n : Int) (w : List UInt8) (h : n < 0) : mstep n w = -1 := by
  unfold mstep; split
  · rw [if_pos (.inl h)]
  · rfl
theorem mfold_neg (L : List (List UInt8)) (n : Int) (h : n < 0) : L.foldl mstep n < 0 := by
  induction L generalizing n with
  | nil => exact h
  | cons a r ih => rw [List.foldl_cons]; exact ih _ (by rw [mstep_neg n a h]; decide)
theorem mTo_stop (L : List (List UInt8)) (k : Nat) (h : mTo L k < 0) : mTo L L.length < 0 := by
  unfold mTo at h ⊢
  rw [List.take_length]
  have e := List.take_append_drop k L
  rw [← e, List.foldl_append]
  exact mfold_neg _ _ h
theorem mac_not (l : List UInt8) (h : (parts 58 l).length ≠ 6) : mac l = -1 := by
  unfold mac
  split
  · rename_i e; rw [e] at h; simp at h
  · rfl
theorem mac_to (l : List UInt8) (h : (parts 58 l).length = 6) : mac l = mTo (parts 58 l) 6 := by
  unfold mac mTo
  generalize parts 58 l = L at h
  match L, h with
  | [a, b, c, d, e, f], _ => rfl
theorem mTo_bd (L : List (List UInt8)) (k : Nat) (hk : k ≤ L.length) (h0 : 0 ≤ mTo L k) : mTo L k < 256 ^ k := by
  induction k with
  | zero => rw [mTo_zero]; decide
  | succ k ih =>
    rw [mTo_succ L k hk] at h0 ⊢
    obtain ⟨h1, q, hq, _, e⟩ := mstep_ok h0
    have := ih (by omega) h1
    rw [e, Int.pow_succ]; omega
theorem mTo_small (L : List (List UInt8)) (k : Nat) (hk : k ≤ L.length) (h5 : k ≤ 5) (h0 : 0 ≤ mTo L k) : mTo L k < 1099511627776 := by
  have h := mTo_bd L k hk h0
  have hc : k = 0 ∨ k = 1 ∨ k = 2 ∨ k = 3 ∨ k = 4 ∨ k = 5 := by omega
  rcases hc with rfl | rfl | rfl | rfl | rfl | rfl <;> simp at h <;> omega
theorem mstep_two (n : Int) (x y : UInt8) : mstep n [x, y] = if n < 0 ∨ hv x < 0 ∨ hv y < 0 then -1 else 256 * n + 16 * hv x + hv y := rfl
theorem mstep_len (n : Int) (w : List UInt8) (h : w.length ≠ 2) : mstep n w = -1 := by
  unfold mstep
  split
  · simp at h
  · rfl
theorem hv_bd (c : UInt8) : -1 ≤ hv c ∧ hv c ≤ 15 := by
  unfold hv; split
  · omega
  · split <;> omega
end Adr
namespace Go.Proofs.YthnbhdphelhcfaaDoor
open Go.RowKit

set_option maxHeartbeats 2000000 in
set_option maxRecDepth 100000 in
theorem mac_any (s : ByteArray) (w : World) (hE : Env w) (hs : s.size ≤ 100000000) :
    Calls Tryd.prog 17 #[.string s] w fun e w' => e = .returned (okRet (Adr.mac s.data.toList)) ∧ Below w.heap.size w w' := by
  have hm := Adr.macP_eq s.data.toList
  have hlen := strip_len s.data.toList 58
  rw [size_data] at hlen
  unfold Adr.macP at hm
  have HH := Lib.hid (show ∀ W, Env W → Calls Tryd.prog 34 #[.string ⟨(Lib.replaceAll s.data.toList [58] []).toArray⟩, .int .i64 16, .int .i64 48] W fun e w' => Parsed 72 (Adr.parseMac (Lib.replaceAll s.data.toList [58] [])) e ∧ Below W.heap.size W w' from
    fun W hW => by
      have := hex_any ⟨(Lib.replaceAll s.data.toList [58] []).toArray⟩ W hW (by rw [size_mk]; omega)
      rw [data_mk] at this; exact this)
  clear hlen
  rcases hp : Adr.parseMac (Lib.replaceAll s.data.toList [58] []) with _ | (_ | u)
  rotate_left 2
  ·
    have hu := Adr.parseMac_lt hp
    rw [hp] at hm
    simp only at hm
    have HP := Lib.hid hp
    clear hp
    by_cases he : Adr.macText u = s.data.toList
    · rw [if_pos he] at hm
      have HF := Lib.hid (show okRet (Adr.mac s.data.toList) = .tuple #[.int .i64 u, .bool true] by rw [← hm]; exact okRet_yes (by omega))
      have HE := Lib.hid he
      clear hm he
      go_enter Tryd.func17, Tryd.ntmps17
      go_wp2_with fail
      refine (strip_any s 58 _ hE hs).mono ?_
      rintro e w1 ⟨rfl, hb1⟩
      go_wp2_with fail
      refine (HH.out _ (hE.below hb1)).mono ?_
      rintro e w2 ⟨hpe, hb2⟩
      rw [HP.out] at hpe
      subst hpe
      go_wp2_with fail
      refine (macText_any u _ (by omega) (by omega)).mono ?_
      rintro e w3 ⟨rfl, hb3⟩
      rw [Int.toNat_natCast, HE.out, mk_data]
      go_wp2_with fail
      go_ret2
      exact ⟨by rw [HF.out]; rfl, below_step (below_step hb1 hb2) hb3⟩
    · rw [if_neg he] at hm
      have HF := Lib.hid (show okRet (Adr.mac s.data.toList) = .tuple #[.int .i64 0, .bool false] by rw [← hm]; exact okRet_no (by decide))
      have hne := str_ne he
      have HN := Lib.hid hne
      clear hm he hne
      go_enter Tryd.func17, Tryd.ntmps17
      go_wp2_with fail
      refine (strip_any s 58 _ hE hs).mono ?_
      rintro e w1 ⟨rfl, hb1⟩
      go_wp2_with fail
      refine (HH.out _ (hE.below hb1)).mono ?_
      rintro e w2 ⟨hpe, hb2⟩
      rw [HP.out] at hpe
      subst hpe
      go_wp2_with fail
      refine (macText_any u _ (by omega) (by omega)).mono ?_
      rintro e w3 ⟨rfl, hb3⟩
      rw [Int.toNat_natCast]
      have hne := HN.out
      generalize Adr.macText u = T at *
      go_wp2_with fail
      go_ret2
      exact ⟨by rw [HF.out]; rfl, below_step (below_step hb1 hb2) hb3⟩
  ·
    rw [hp] at hm
    simp only at hm
    have HF := Lib.hid (show okRet (Adr.mac s.data.toList) = .tuple #[.int .i64 0, .bool false] by rw [← hm]; exact okRet_no (by decide))
    have HP := Lib.hid hp
    clear hp hm
    go_enter Tryd.func17, Tryd.ntmps17
    go_wp2_with fail
    refine (strip_any s 58 _ hE hs).mono ?_
    rintro e w1 ⟨rfl, hb1⟩
    go_wp2_with fail
    refine (HH.out _ (hE.below hb1)).mono ?_
    rintro e w2 ⟨hpe, hb2⟩
    rw [HP.out] at hpe
    obtain ⟨p, rfl⟩ := hpe
    go_wp2_with fail
    refine (macText_any 0 _ (by decide) (by decide)).mono ?_
    rintro e w3 ⟨rfl, hb3⟩
    generalize Adr.macText (Int.toNat 0) = T at *
    go_wp2_with fail
    go_ret2
    exact ⟨by rw [HF.out]; rfl, below_step (below_step hb1 hb2) hb3⟩
  ·
    rw [hp] at hm
    simp only at hm
    have HF := Lib.hid (show okRet (Adr.mac s.data.toList) = .tuple #[.int .i64 0, .bool false] by rw [← hm]; exact okRet_no (by decide))
    have HP := Lib.hid hp
    clear hp hm
    go_enter Tryd.func17, Tryd.ntmps17
    go_wp2_with fail
    refine (strip_any s 58 _ hE hs).mono ?_
    rintro e w1 ⟨rfl, hb1⟩
    go_wp2_with fail
    refine (HH.out _ (hE.below hb1)).mono ?_
    rintro e w2 ⟨hpe, hb2⟩
    rw [HP.out] at hpe
    obtain ⟨p, rfl⟩ := hpe
    go_wp2_with fail
    refine (macText_any 281474976710655 _ (by decide) (by decide)).mono ?_
    rintro e w3 ⟨rfl, hb3⟩
    generalize Adr.macText (Int.toNat 281474976710655) = T at *
    go_wp2_with fail
    go_ret2
    exact ⟨by rw [HF.out]; rfl, below_step (below_step hb1 hb2) hb3⟩

set_option maxHeartbeats 2000000 in
set_option maxRecDepth 100000 in
theorem refMac_any (s : ByteArray) (w : World) (hs : s.size ≤ 100000000) :
    Calls Tryd.prog 18 #[.string s] w fun e w' => e = .returned (.int .i64 (Adr.mac s.data.toList)) ∧ Below w.heap.size w w' := by
  go_enter Tryd.func18, Tryd.ntmps18
  go_wp2_with fail
  refine (parts_any s 58 _ hs).mono ?_
  rintro e w1 ⟨A, cap, rfl, hc1, hc2, hR, hb1⟩
  have hps := Adr.parts_short 58 s.data.toList
  rw [size_data] at hps
  by_cases h4 : (Adr.parts 58 s.data.toList).length = 6
  · have HI := Lib.hid (Adr.mac_to _ h4)
    generalize Adr.parts 58 s.data.toList = L at *
    have H4 := Lib.hid h4
    rw [h4] at hR hc1 ⊢
    clear h4
    go_wp2_with fail
    go_loopw [4, 5] (fun o i wr => ∃ k : Nat, k ≤ 6 ∧ i = .int .i64 k ∧ o = .int .i64 (Adr.mTo L k) ∧ 0 ≤ Adr.mTo L k ∧ Below w1.heap.size w1 wr) (fun _ i _ => 6 - (intOf i).toNat)
    case atStart => exact ⟨0, by omega, rfl, by rw [Adr.mTo_zero], by rw [Adr.mTo_zero]; decide, Below.refl _ _⟩
    case round =>
      obtain ⟨k, hk, rfl, rfl, hn, hbr⟩ := hrel
      by_cases hk4 : k < 6
      · have hkL : k < L.length := by rw [H4.out]; exact hk4
        have hsuc := Adr.mTo_succ L k hkL
        have hstop := Adr.mTo_stop L (k + 1)
        have hbd := Adr.mTo_small L k (by omega) (by omega) hn
        have hget := strs_get hkL
        have hshort := hps L[k] (List.getElem_mem hkL)
        generalize L[k] = p at *
        generalize Adr.mTo L k = n at *
        obtain ⟨ad, rfl, had, hcell⟩ := (hR.below hbr).cell hget
        clear hget
        have fin : Adr.mstep n p = -1 → Hid (Adr.mac s.data.toList = -1) := fun e => by
          rw [e] at hsuc
          have := hstop (by rw [hsuc]; decide)
          have h2 := Adr.mac_ge s.data.toList
          rw [HI.out, ← H4.out] at h2
          refine Lib.hid ?_
          rw [HI.out, ← H4.out]; omega
        by_cases hlen : p.length = 2
        · match p, hlen with
          | [x, y], _ =>
            have hx := Adr.hv_bd x
            have hy := Adr.hv_bd y
            have hst := Adr.mstep_two n x y
            have hgx : (⟨[x, y].toArray⟩ : ByteArray)[0]'(by simp [ByteArray.size]) = x := rfl
            by_cases hbad : Adr.hv x < 0 ∨ Adr.hv y < 0
            · rw [if_pos (.inr hbad)] at hst
              have HF := fin hst
              clear fin hstop hsuc hst
              by_cases hx0 : Adr.hv x < 0
              · clear hbad
                go_wp2_with fail
                refine (value_any x _).mono ?_
                rintro e w3 ⟨rfl, rfl⟩
                go_wp2_with fail
                go_ret
                exact ⟨by rw [HF.out]; rfl, below_step hb1 hbr⟩
              · have hy0 : Adr.hv y < 0 := hbad.resolve_left hx0
                have hx0' : 0 ≤ Adr.hv x := by omega
                clear hbad hx0
                go_wp2_with fail
                refine (value_any x _).mono ?_
                rintro e w3 ⟨rfl, rfl⟩
                go_wp2_with fail
                refine (value_any y _).mono ?_
                rintro e w3 ⟨rfl, rfl⟩
                go_wp2_with fail
                go_ret
                exact ⟨by rw [HF.out]; rfl, below_step hb1 hbr⟩
            · have hx0 : 0 ≤ Adr.hv x := by omega
              have hy0 : 0 ≤ Adr.hv y := by omega
              rw [if_neg (by omega)] at hst
              rw [hst] at hsuc
              have HS := Lib.hid hsuc
              clear fin hstop hsuc hst hbad
              go_wp2_with fail
              refine (value_any x _).mono ?_
              rintro e w3 ⟨rfl, rfl⟩
              go_wp2_with fail
              refine (value_any y _).mono ?_
              rintro e w3 ⟨rfl, rfl⟩
              go_wp2_with fail
              have hw1 : IntKind.i64.wrap (256 * n) = 256 * n := IntWalk.i64_in _ (by omega)
              have hw2 : IntKind.i64.wrap (16 * Adr.hv x) = 16 * Adr.hv x := IntWalk.i64_in _ (by omega)
              have hw3 : IntKind.i64.wrap (256 * n + 16 * Adr.hv x) = 256 * n + 16 * Adr.hv x := IntWalk.i64_in _ (by omega)
              have hw4 : IntKind.i64.wrap (256 * n + 16 * Adr.hv x + Adr.hv y) = 256 * n + 16 * Adr.hv x + Adr.hv y := IntWalk.i64_in _ (by omega)
              go_quiet ((first | (go_at_call_of 36 (Value.int .u8 (x.toNat : Int)); exact quiet_left (value_any x _)) | (go_at_call 36; exact quiet_left (value_any y _))))
              clear hw1 hw2 hw3 hw4
              go_wp2_with fail
              go_roundw
              case rel => exact ⟨k + 1, by omega, by go_num, by rw [HS.out], by rw [HS.out]; omega, below_drewN hbr _⟩
              case measure => simp [intOf]; omega
        · have HF := fin (Adr.mstep_len n p hlen)
          have hne : ((p.length : Int) != 2) = true := by rw [bne_iff_ne]; omega
          clear fin hstop hsuc hlen
          go_wp2_with fail
          go_ret
          exact ⟨by rw [HF.out]; rfl, below_step hb1 hbr⟩
      · have hk4' : 6 ≤ k := by omega
        have HF := Lib.hid (show Adr.mac s.data.toList = Adr.mTo L k by
          obtain rfl : k = 6 := by omega
          rw [HI.out])
        clear hk4
        go_wp2_with fail
        go_ret
        exact ⟨by rw [HF.out]; rfl, below_step hb1 hbr⟩
  · have HF := Lib.hid (Adr.mac_not _ h4)
    have hne : (((Adr.parts 58 s.data.toList).length : Int) == 6) = false := by rw [beq_eq_false_iff_ne]; omega
    clear h4
    go_wp2_with fail
    go_ret
    exact ⟨by rw [HF.out]; rfl, hb1⟩
end Go.Proofs.YthnbhdphelhcfaaDoor
