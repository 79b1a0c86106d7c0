/- Walks: a hardware address of a text: the program's and the reference's. -/
import Derived.Test.YtlojeeakjgalpaaDoorMacW
namespace Adr
open Go
def mTo (L : List (List UInt8)) (k : Nat) : Int := (L.take k).foldl mstep 0
theorem mTo_zero (L : List (List UInt8)) : mTo L 0 = 0 := by unfold mTo; rw [List.take_zero]; rfl
theorem mTo_succ (L : List (List UInt8)) (k : Nat) (h : k < L.length) : mTo L (k + 1) = mstep (mTo L k) L[k] := by
  unfold mTo
  rw [List.take_succ_eq_append_getElem h, List.foldl_append]; rfl
theorem mstep_neg (n : Int) (w : List UInt8) (h : n < 0) : mstep n w = -1 := by
  unfold mstep; split
  · rw [if_pos (.inl h)]
  · rfl
theorem mfold_neg (L : List (List UInt8)) (n : Int) (h : n < 0) : L.foldl mstep n < 0 := by
  induction L generalizing n with
  | nil => exact h
  | cons a r ih => rw [List.foldl_cons]; exact ih _ (by rw [mstep_neg n a h]; decide)
theorem mTo_stop (L : List (List UInt8)) (k : Nat) (h : mTo L k < 0) : mTo L L.length < 0 := by
  unfold mTo at h ⊢
  rw [List.take_length]
  have e := List.take_append_drop k L
  rw [← e, List.foldl_append]
  exact mfold_neg _ _ h
theorem mac_not (l : List UInt8) (h : (parts 58 l).length ≠ 6) : mac l = -1 := by
  unfold mac
  split
  · rename_i e; rw [e] at h; simp at h
  · rfl
theorem mac_to (l : List UInt8) (h : (parts 58 l).length = 6) : mac l = mTo (parts 58 l) 6 := by
  unfold mac mTo
  generalize parts 58 l = L at h
  match L, h with
  | [a, b, c, d, e, f], _ => rfl
theorem mTo_bd (L : List (List UInt8)) (k : Nat) (hk : k ≤ L.length) (h0 : 0 ≤ mTo L k) : mTo L k < 256 ^ k := by
  induction k with
  | zero => rw [mTo_zero]; decide
  | succ k ih =>
    rw [mTo_succ L k hk] at h0 ⊢
    obtain ⟨h1, q, hq, _, e⟩ := mstep_ok h0
    have := ih (by omega) h1
    rw [e, Int.pow_succ]; omega
theorem mTo_small (L : List (List UInt8)) (k : Nat) (hk : k ≤ L.length) (h5 : k ≤ 5) (h0 : 0 ≤ mTo L k) : mTo L k < 1099511627776 := by
  have h := mTo_bd L k hk h0
  have hc : k = 0 ∨ k = 1 ∨ k = 2 ∨ k = 3 ∨ k = 4 ∨ k = 5 := by omega
  rcases hc with rfl | rfl | rfl | rfl | rfl | rfl <;> simp at h <;> omega
theorem mstep_two (n : Int) (x y : UInt8) : mstep n [x, y] = if n < 0 ∨ hv x < 0 ∨ hv y < 0 then -1 else 256 * n + 16 * hv x + hv y := rfl
theorem mstep_len (n : Int) (w : List UInt8) (h : w.length ≠ 2) : mstep n w = -1 := by
  unfold mstep
  split
  · simp at h
  · rfl
theorem hv_bd (c : UInt8) : -1 ≤ hv c ∧ hv c ≤ 15 := by
  unfold hv; split
  · omega
  · split <;> omega
end Adr
namespace Go.Proofs.YtlojeeakjgalpaaDoor
open Go.RowKit

set_option maxHeartbeats 2000000 in
set_option maxRecDepth 100000 in
theorem mac_any (s : ByteArray) (w : World) (hE : Env w) (hs : s.size ≤ 100000000) :
    Calls Tryd.prog 25 #[.string s] w fun e w' => e = .returned (okRet (Adr.mac s.data.toList)) ∧ Below w.heap.size w w' := by
  have hm := Adr.macP_eq s.data.toList
  have hlen := strip_len s.data.toList 58
  rw [size_data] at hlen
  unfold Adr.macP at hm
  have HH := Lib.hid (show ∀ W, Env W → Calls Tryd.prog 47 #[.string ⟨(Lib.replaceAll s.data.toList [58] []).toArray⟩, .int .i64 16, .int .i64 48] W fun e w' => Parsed 96 (Adr.parseMac (Lib.replaceAll s.data.toList [58] [])) e ∧ Below W.heap.size W w' from
    fun W hW => by
      have := hex_any ⟨(Lib.replaceAll s.data.toList [58] []).toArray⟩ W hW (by rw [size_mk]; omega)
      rw [data_mk] at this; exact this)
  clear hlen
  rcases hp : Adr.parseMac (Lib.replaceAll s.data.toList [58] []) with _ | (_ | u)
  rotate_left 2
  ·
    have hu := Adr.parseMac_lt hp
    rw [hp] at hm
    simp only at hm
    have HP := Lib.hid hp
    clear hp
    by_cases he : Adr.macText u = s.data.toList
    · rw [if_pos he] at hm
      have HF := Lib.hid (show okRet (Adr.mac s.data.toList) = .tuple #[.int .i64 u, .bool true] by rw [← hm]; exact okRet_yes (by omega))
      have HE := Lib.hid he
      clear hm he
      go_enter Tryd.func25, Tryd.ntmps25
      go_wp2_with fail
      refine (strip_any s 58 _ hE hs).mono ?_
      rintro e w1 ⟨rfl, hb1⟩
      go_wp2_with fail
      refine (HH.out _ (hE.below hb1)).mono ?_
      rintro e w2 ⟨hpe, hb2⟩
      rw [HP.out] at hpe
      subst hpe
      go_wp2_with fail
      refine (macText_any u _ (by omega) (by omega)).mono ?_
      rintro e w3 ⟨rfl, hb3⟩
      rw [Int.toNat_natCast, HE.out, mk_data]
      go_wp2_with fail
      go_ret2
      exact ⟨by rw [HF.out]; rfl, below_step (below_step hb1 hb2) hb3⟩
    · rw [if_neg he] at hm
      have HF := Lib.hid (show okRet (Adr.mac s.data.toList) = .tuple #[.int .i64 0, .bool false] by rw [← hm]; exact okRet_no (by decide))
      have hne := str_ne he
      have HN := Lib.hid hne
      clear hm he hne
      go_enter Tryd.func25, Tryd.ntmps25
      go_wp2_with fail
      refine (strip_any s 58 _ hE hs).mono ?_
      rintro e w1 ⟨rfl, hb1⟩
      go_wp2_with fail
      refine (HH.out _ (hE.below hb1)).mono ?_
      rintro e w2 ⟨hpe, hb2⟩
      rw [HP.out] at hpe
      subst hpe
      go_wp2_with fail
      refine (macText_any u _ (by omega) (by omega)).mono ?_
      rintro e w3 ⟨rfl, hb3⟩
      rw [Int.toNat_natCast]
      have hne := HN.out
      generalize Adr.macText u = T at *
      go_wp2_with fail
      go_ret2
      exact ⟨by rw [HF.out]; rfl, below_step (below_step hb1 hb2) hb3⟩
  ·
    rw [hp] at hm
    simp only at hm
    have HF := Lib.hid (show okRet (Adr.mac s.data.toList) = .tuple #[.int .i64 0, .bool false] by rw [← hm]; exact okRet_no (by decide))
    have HP := Lib.hid hp
    clear hp hm
    go_enter Tryd.func25, Tryd.ntmps25
    go_wp2_with fail
    refine (strip_any s 58 _ hE hs).mono ?_
    rintro e w1 ⟨rfl, hb1⟩
    go_wp2_with fail
    refine (HH.out _ (hE.below hb1)).mono ?_
    rintro e w2 ⟨hpe, hb2⟩
    rw [HP.out] at hpe
    obtain ⟨p, rfl⟩ := hpe
    go_wp2_with fail
    refine (macText_any 0 _ (by decide) (by decide)).mono ?_
    rintro e w3 ⟨rfl, hb3⟩
    generalize Adr.macText (Int.toNat 0) = T at *
    go_wp2_with fail
    go_ret2
    exact ⟨by rw [HF.out]; rfl, below_step (below_step hb1 hb2) hb3⟩
  ·
    rw [hp] at hm
    simp only at hm
    have HF := Lib.hid (show okRet (Adr.mac s.data.toList) = .tuple #[.int .i64 0, .bool false] by rw [← hm]; exact okRet_no (by decide))
    have HP := Lib.hid hp
    clear hp hm
    go_enter Tryd.func25, Tryd.ntmps25
    go_wp2_with fail
    refine (strip_any s 58 _ hE hs).mono ?_
    rintro e w1 ⟨rfl, hb1⟩
    go_wp2_with fail
    refine (HH.out _ (hE.below hb1)).mono ?_
    rintro e w2 ⟨hpe, hb2⟩
    rw [HP.out] at hpe
    obtain ⟨p, rfl⟩ := hpe
    go_wp2_with fail
    refine (macText_any 281474976710655 _ (by decide) (by decide)).mono ?_
    rintro e w3 ⟨rfl, hb3⟩
    generalize Adr.macText (Int.toNat 281474976710655) = T at *
    go_wp2_with fail
    go_ret2
    exact ⟨by rw [HF.out]; rfl, below_step (below_step hb1 hb2) hb3⟩

end Go.Proofs.YtlojeeakjgalpaaDoor
