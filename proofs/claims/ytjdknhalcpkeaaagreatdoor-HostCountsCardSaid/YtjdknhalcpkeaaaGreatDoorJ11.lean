/- Walks: the reference's In, Digits, IPText, hex, MACText. Walks: the texts of addresses, prefixes, hardware addresses: the program's and the reference's. Walks: the text of a hardware address: the program's. Walks: a prefix' text; a hardware address of a text: the program's and the reference's; the reference's text of one. Walks: a hardware address of a text: the program's and the reference's. Contracts: what is trimmed (package strings), at constant sets. -/
import Derived.BigQuiet
import Derived.Deep.QuietTactic
import Derived.BigRegion
import Derived.Deep.RegionLaw
import Derived.Deep.RegionHeld3
import Derived.Deep.AppendLies
import Derived.Shelf.Strings.SlTrimAscii
import Derived.Test.YtjdknhalcpkeaaaGreatDoorJ10
import Derived.Test.YtjdknhalcpkeaaaGreatDoorJ03
namespace Adr
open Go
theorem in_pw (n b ip : Int) (hr : right n b = true) (h0 : 0 ≤ ip) (h1 : ip < 4294967296) : (ip / pw (32 - b) == n / pw (32 - b)) = isIn n b ip := by
 obtain ⟨n0, n1, b0, b1, _⟩ := right_bd hr
 obtain ⟨a, rfl⟩ := Int.eq_ofNat_of_zero_le n0
 obtain ⟨c, rfl⟩ := Int.eq_ofNat_of_zero_le h0
 rw [pw_nat b b0 b1, Bool.eq_iff_iff]
 unfold isIn
 rw [hr]
 simp only [beq_iff_eq, Bool.and_eq_true, decide_eq_true_eq, Bool.true_and, Int.toNat_natCast]
 generalize 2 ^ (32 - b.toNat) = m
 rw [← Int.natCast_ediv, ← Int.natCast_ediv]
 omega
end Adr
namespace Go.Proofs.YtjdknhalcpkeaaaGreatDoor
open Go.RowKit
theorem quiet_left {P : Program} {f : FuncId} {args : Array Value} {w : World} {n : Nat} {v : Value} (h : Calls P f args (w.drewN n) fun e w' => e = .returned v ∧ w.drewN n = w') :
 Calls P f args (w.drewN n) fun e w'' => e = .returned v ∧ ∃ m, w'' = w.drewN m := h.mono fun _ _ ⟨he, hm⟩ => ⟨he, n, hm.symm⟩
set_option maxHeartbeats 1000000 in
set_option maxRecDepth 100000 in
theorem refIn_any (n b ip : Int) (w : World) :
 Calls Tryz.prog 152 #[.int .i64 n, .int .i64 b, .int .i64 ip] w fun e w' => e = .returned (.bool (Adr.isIn n b ip)) ∧ Below w.heap.size w w' := by
 cases hr : Adr.right n b with
 | false =>
   have He := Lib.hid (Adr.isIn_not (n := n) (b := b) (ip := ip) (by rw [hr]; simp))
   have HQ := Lib.hid (show ∀ W : World, Calls Tryz.prog 176 #[.int .i64 n, .int .i64 b] W fun e w' => e = .returned (.bool false) ∧ W = w' from fun W => by have := refRight_any n b W; rw [hr] at this; exact this)
   clear hr
   go_enter Tryz.func152, Tryz.ntmps152
   go_wp2_with fail
   go_quiet ((go_at_call 176; exact quiet_left (HQ.out _)))
   go_wp2_with fail
   go_ret
   exact ⟨ret_bool He.out.symm, below_drews _⟩
 | true =>
   obtain ⟨n0, n1, b0, b1, _⟩ := Adr.right_bd hr
   have HQ := Lib.hid (show ∀ W : World, Calls Tryz.prog 176 #[.int .i64 n, .int .i64 b] W fun e w' => e = .returned (.bool true) ∧ W = w' from fun W => by have := refRight_any n b W; rw [hr] at this; exact this)
   by_cases h : 0 ≤ ip ∧ ip < 4294967296
   · obtain ⟨h0, h1⟩ := h
     have He := Lib.hid (Adr.in_pw n b ip hr h0 h1)
     have hp := Adr.pw_bd' (32 - b) (by omega) (by omega)
     have HP := Lib.hid (show ∀ W : World, Calls Tryz.prog 180 #[.int .i64 (32 - b)] W fun e w' => e = .returned (.int .i64 (Adr.pw (32 - b))) ∧ W = w' from fun W => power_any (32 - b) W (by omega) (by omega))
     have hs : IntKind.i64.wrap (32 - b) = 32 - b := IntWalk.i64_in _ (by omega)
     clear hr
     go_enter Tryz.func152, Tryz.ntmps152
     go_wp2_with fail
     go_quiet ((first | (go_at_call 176; exact quiet_left (HQ.out _)) | (go_at_call 180; exact quiet_left (HP.out _))))
     go_wp2_with fail
     go_ret
     exact ⟨ret_bool He.out, below_drews _⟩
   · have He := Lib.hid (Adr.isIn_not (n := n) (b := b) (ip := ip) (by rintro ⟨_, x, y⟩; exact h ⟨x, y⟩))
     clear hr
     by_cases h0 : 0 ≤ ip
     · have h1 : 4294967296 ≤ ip := by omega
       have hd : decide (ip < 4294967296) = false := by simp; omega
       clear h
       go_enter Tryz.func152, Tryz.ntmps152
       go_wp2_with fail
       go_quiet ((go_at_call 176; exact quiet_left (HQ.out _)))
       go_wp2_with fail
       go_ret
       exact ⟨ret_bool He.out.symm, below_drews _⟩
     · have h1 : ip < 0 := by omega
       have hd : decide (0 ≤ ip) = false := by simp; omega
       clear h h0
       go_enter Tryz.func152, Tryz.ntmps152
       go_wp2_with fail
       go_quiet ((go_at_call 176; exact quiet_left (HQ.out _)))
       go_wp2_with fail
       go_ret
       exact ⟨ret_bool He.out.symm, below_drews _⟩
theorem str_append (l m : List UInt8) : ((⟨l.toArray⟩ : ByteArray) ++ (⟨m.toArray⟩ : ByteArray)) = ⟨(l ++ m).toArray⟩ := by
 apply ByteArray.ext; simp
end Go.Proofs.YtjdknhalcpkeaaaGreatDoor
namespace Adr
open Go Go.Lib
end Adr
namespace Go.Proofs.YtjdknhalcpkeaaaGreatDoor
open Go.RowKit
theorem and_255 (x : Int) (h0 : 0 ≤ x) (h : x < 9223372036854775808) : bits .and .i64 x 255 = x % 256 := by
 obtain ⟨a, rfl⟩ := Int.eq_ofNat_of_zero_le h0
 have e : (255 : Int) = ((255 : Nat) : Int) := rfl
 rw [e, Adr.and_nat a 255 (by omega) (by decide)]
 have := Nat.and_two_pow_sub_one_eq_mod a 8
 simp only [Nat.reducePow, Nat.add_one_sub_one] at this
 rw [show (255 : Nat) = 256 - 1 by decide, this]; omega
end Go.Proofs.YtjdknhalcpkeaaaGreatDoor
namespace Go.Proofs.YtjdknhalcpkeaaaGreatDoor
open Go.RowKit
set_option maxRecDepth 100000 in
theorem index_hex (i : Int) (h0 : 0 ≤ i) (h : i < 16) (W : World) : (Instr.index 9 (.string ⟨#[48, 49, 50, 51, 52, 53, 54, 55, 56, 57, 97, 98, 99, 100, 101, 102]⟩) (.int .i64 i)).run Tryz.prog W = .ok (.int .u8 ((Adr.hexd i.toNat).toNat : Int)) W := by
 have hc : i = 0 ∨ i = 1 ∨ i = 2 ∨ i = 3 ∨ i = 4 ∨ i = 5 ∨ i = 6 ∨ i = 7 ∨ i = 8 ∨ i = 9 ∨ i = 10 ∨ i = 11 ∨ i = 12 ∨ i = 13 ∨ i = 14 ∨ i = 15 := by omega
 rcases hc with rfl | rfl | rfl | rfl | rfl | rfl | rfl | rfl | rfl | rfl | rfl | rfl | rfl | rfl | rfl | rfl <;> rfl
theorem conv_two_drew (W : World) (a b : UInt8) : (convert 144 9 (.slice (some ⟨W.heap.size, 0, none⟩) 2 2)).run Tryz.prog (W.alloc (.cells #[.int .u8 (a.toNat : Int), .int .u8 (b.toNat : Int)] 5)).drew =
 .ok (.string ⟨#[a, b]⟩) (W.alloc (.cells #[.int .u8 (a.toNat : Int), .int .u8 (b.toNat : Int)] 5)).drew := by
 refine run_convert_bytes_back _ 144 9 5 _ _ [a, b] Tryz.underlying144 Tryz.underlying5 Tryz.underlying9 fun j hj => ?_
 show (W.alloc _).cell? _ = _
 rw [add_plain, Nat.zero_add, World.cell?_alloc_at _ _ _ _ rfl]
 match j, hj with
 | 0, _ => rfl
 | 1, _ => rfl
theorem and_15 (x : Int) (h0 : 0 ≤ x) (h : x < 9223372036854775808) : bits .and .i64 x 15 = x % 16 := by
 obtain ⟨a, rfl⟩ := Int.eq_ofNat_of_zero_le h0
 have e : (15 : Int) = ((15 : Nat) : Int) := rfl
 rw [e, Adr.and_nat a 15 (by omega) (by decide)]
 have := Nat.and_two_pow_sub_one_eq_mod a 4
 rw [show (2 : Nat) ^ 4 - 1 = 15 by decide, show (2 : Nat) ^ 4 = 16 by decide] at this
 rw [this]; omega
def macParts (n : Nat) : List (List UInt8) := [Adr.mac2 (n / 1099511627776 % 256), Adr.mac2 (n / 4294967296 % 256), Adr.mac2 (n / 16777216 % 256), Adr.mac2 (n / 65536 % 256), Adr.mac2 (n / 256 % 256), Adr.mac2 (n % 256)]
theorem news_one (W : World) (x : Value) (T H : Nat) (hH : W.heap.size = H) : ∀ j u, [x][j]? = some u → (W.alloc (.cells #[x] T)).drew.cell? ((⟨H, 0, none⟩ : Addr).add j) = some u := by
 intro j u hu
 subst hH
 show (W.alloc _).cell? _ = _
 rw [add_plain, Nat.zero_add, World.cell?_alloc_at _ _ _ _ rfl]
 simpa using hu
theorem macPart_at (n : Int) (k : Nat) (sh : Int) (hsh : sh = 40 - 8 * (k : Int)) (hk : k < 6) (h0 : 0 ≤ n) (h : n < 281474976710656) :
 bits .and .i64 (n / 2 ^ sh.toNat) 255 = n / 2 ^ sh.toNat % 256 ∧ (macParts n.toNat)[k]? = some (Adr.mac2 (n / 2 ^ sh.toNat % 256).toNat) := by
 have hc : k = 0 ∨ k = 1 ∨ k = 2 ∨ k = 3 ∨ k = 4 ∨ k = 5 := by omega
 have e : sh.toNat = 40 - 8 * k := by omega
 rw [e]
 rcases hc with rfl | rfl | rfl | rfl | rfl | rfl
 · rw [show (2 : Int) ^ (40 - 8 * 0) = 1099511627776 by decide]
   exact ⟨and_255 _ (by omega) (by omega), by rw [show (n / 1099511627776 % 256).toNat = n.toNat / 1099511627776 % 256 by omega]; rfl⟩
 · rw [show (2 : Int) ^ (40 - 8 * 1) = 4294967296 by decide]
   exact ⟨and_255 _ (by omega) (by omega), by rw [show (n / 4294967296 % 256).toNat = n.toNat / 4294967296 % 256 by omega]; rfl⟩
 · rw [show (2 : Int) ^ (40 - 8 * 2) = 16777216 by decide]
   exact ⟨and_255 _ (by omega) (by omega), by rw [show (n / 16777216 % 256).toNat = n.toNat / 16777216 % 256 by omega]; rfl⟩
 · rw [show (2 : Int) ^ (40 - 8 * 3) = 65536 by decide]
   exact ⟨and_255 _ (by omega) (by omega), by rw [show (n / 65536 % 256).toNat = n.toNat / 65536 % 256 by omega]; rfl⟩
 · rw [show (2 : Int) ^ (40 - 8 * 4) = 256 by decide]
   exact ⟨and_255 _ (by omega) (by omega), by rw [show (n / 256 % 256).toNat = n.toNat / 256 % 256 by omega]; rfl⟩
 · rw [show (2 : Int) ^ (40 - 8 * 5) = 1 by decide]
   exact ⟨and_255 _ (by omega) (by omega), by rw [show (n / 1 % 256).toNat = n.toNat % 256 by omega]; rfl⟩
theorem push_part {L : List (List UInt8)} {k : Nat} {p : List UInt8} (h : L[k]? = some p) : strs (L.take (k + 1)) = strs (L.take k) ++ [.string ⟨p.toArray⟩] := by
 obtain ⟨hk, e⟩ := List.getElem?_eq_some_iff.1 h
 rw [List.take_succ_eq_append_getElem hk, strs_append, e]; rfl
theorem mac2_int (k : Int) (h0 : 0 ≤ k) : Adr.mac2 k.toNat = [Adr.hexd (k / 16).toNat, Adr.hexd (k % 16).toNat] := by
 unfold Adr.mac2
 rw [show (k / 16).toNat = k.toNat / 16 by omega, show (k % 16).toNat = k.toNat % 16 by omega]
set_option maxHeartbeats 2000000 in
set_option maxRecDepth 100000 in
theorem macText_any (n : Int) (w : World) (h0 : 0 ≤ n) (h : n < 281474976710656) :
 Calls Tryz.prog 209 #[.int .i64 n] w fun e w' => e = .returned (.tuple #[.string ⟨(Adr.macText n.toNat).toArray⟩, .bool true]) ∧ Below w.heap.size w w' := by
 obtain ⟨i0, hi, hz0, hz1, hz2⟩ := info_parts info_string
 go_enter Tryz.func209, Tryz.ntmps209
 go_wp2_with fail
 go_loopw [4, 5, 6] (fun v i _ wr => ∃ k : Nat, k ≤ 6 ∧ i = .int .i64 (40 - 8 * k) ∧ wr.ownsRow w.heap.size 9 1 v k (strs ((macParts n.toNat).take k)) ∧ Below w.heap.size w wr) (fun _ i _ _ => (intOf i + 8).toNat)
 case atStart => exact ⟨0, by omega, rfl, World.ownsRow_nil _ _ _ _, Below.refl _ _⟩
 case round =>
  obtain ⟨k, hk, rfl, hown, hb⟩ := hrel
  by_cases h6 : k < 6
  · obtain ⟨sh, hsh⟩ : ∃ sh, sh = 40 - 8 * (k : Int) := ⟨_, rfl⟩
    rw [← hsh]
    have hs1 : 0 ≤ sh := by omega
    have hs2 : sh ≤ 40 := by omega
    have Hsh := Lib.hid hsh
    obtain ⟨ha, hp⟩ := macPart_at n k sh hsh h6 h0 h
    have hk1a : 0 ≤ n / 2 ^ sh.toNat % 256 := by omega
    have hk1b : n / 2 ^ sh.toNat % 256 < 256 := by omega
    generalize hk1 : n / 2 ^ sh.toNat % 256 = k1 at *
    have Hp := Lib.hid hp
    clear hsh hp hk1
    have hi1 := index_hex (k1 / 16) (by omega) (by omega)
    have hj1 := index_hex (k1 % 16) (by omega) (by omega)
    have hf1 := and_15 k1 (by omega) (by omega)
    have hcv := conv_two_drew wr (Adr.hexd (k1 / 16).toNat) (Adr.hexd (k1 % 16).toNat)
    go_wp2_with fail
    go_region_law (refine step_app (by rfl) _ _ 42 (by rfl) w 9 i0 _ 1 16 Tryz.underlying42 hi hz0 hz1 hz2 rfl (by decide) (by decide) (((hown.alloc _).alloc _).drew) (((hb.alloc hb.size _).alloc (Nat.le_trans hb.size (by simp)) _).drew) (by rfl) ⟨wr.heap.size + 1, 0, none⟩ 1 1 [.string ⟨#[Adr.hexd (k1 / 16).toNat, Adr.hexd (k1 % 16).toNat]⟩] (by rfl) (by rfl) (news_one _ _ _ _ (by simp)) (by simp; rfl) (by omega) ?_; intro v2 x2 hown2 hc2)
    all_goals
     go_wp2_with fail
     go_roundw
     case rel =>
      refine ⟨k + 1, by omega, ?_, ?_, hc2⟩
      · rw [Hsh.out]; go_num
      · have e := push_part Hp.out
        rw [mac2_int k1 hk1a] at e
        rw [e]; exact hown2
     case measure => simp [intOf]; omega
  · have hk6 : 6 ≤ k := by omega
    have e6 : k = (macParts n.toNat).length := by show k = 6; omega
    have hfree : ∀ p ∈ macParts n.toNat, p.length ≤ 2 := by
     intro p hp
     unfold macParts at hp
     simp only [List.mem_cons, List.not_mem_nil, or_false] at hp
     rcases hp with rfl | rfl | rfl | rfl | rfl | rfl <;> exact Nat.le_refl 2
    have Hlen := Lib.hid (glue_len 58 (macParts n.toNat) 2 hfree)
    have E6 := Lib.hid e6
    clear h6 e6 hfree
    obtain ⟨A, cap, rfl, hcap, _, hrd⟩ := rd_own hown
    have hsp := Lib.hid (rd_own_spot hown)
    have Hrd := Lib.hid (show Rd wr 1 A (macParts n.toNat).length (strs (macParts n.toNat)) by
     rw [E6.out, List.take_length] at hrd; exact hrd)
    have HJ := Lib.hid (show Calls Tryz.prog 66 #[.slice A k cap, .string ⟨#[58]⟩] wr fun e w' => e = .returned (.string ⟨(Adr.glue 58 (macParts n.toNat)).toArray⟩) ∧ Below wr.heap.size wr w' by
     have := join_any A cap (macParts n.toNat) 58 wr (by rw [← E6.out]; exact hcap) Hrd.out hsp.out (Nat.le_trans Hlen.out (by show 6 * 3 ≤ _; decide)) (by show 6 ≤ _; decide)
     rw [← E6.out] at this; exact this)
    clear hown hrd
    go_wp2_with fail
    refine HJ.out.mono ?_
    rintro e w5 ⟨rfl, hb5⟩
    go_wp2_with fail
    go_ret2
    exact ⟨rfl, below_step hb hb5⟩
end Go.Proofs.YtjdknhalcpkeaaaGreatDoor
namespace Adr
open Go
end Adr
namespace Go.Proofs.YtjdknhalcpkeaaaGreatDoor
open Go.RowKit
end Go.Proofs.YtjdknhalcpkeaaaGreatDoor
namespace Adr
open Go
def mTo (L : List (List UInt8)) (k : Nat) : Int := (L.take k).foldl mstep 0
theorem mTo_zero (L : List (List UInt8)) : mTo L 0 = 0 := by unfold mTo; rw [List.take_zero]; rfl
theorem mTo_succ (L : List (List UInt8)) (k : Nat) (h : k < L.length) : mTo L (k + 1) = mstep (mTo L k) L[k] := by
 unfold mTo
 rw [List.take_succ_eq_append_getElem h, List.foldl_append]; rfl
theorem mstep_neg (n : Int) (w : List UInt8) (h : n < 0) : mstep n w = -1 := by
 unfold mstep; split
 · rw [if_pos (.inl h)]
 · rfl
theorem mfold_neg (L : List (List UInt8)) (n : Int) (h : n < 0) : L.foldl mstep n < 0 := by
 induction L generalizing n with
 | nil => exact h
 | cons a r ih => rw [List.foldl_cons]; exact ih _ (by rw [mstep_neg n a h]; decide)
theorem mTo_stop (L : List (List UInt8)) (k : Nat) (h : mTo L k < 0) : mTo L L.length < 0 := by
 unfold mTo at h ⊢
 rw [List.take_length]
 have e := List.take_append_drop k L
 rw [← e, List.foldl_append]
 exact mfold_neg _ _ h
theorem mac_not (l : List UInt8) (h : (parts 58 l).length ≠ 6) : mac l = -1 := by
 unfold mac
 split
 · rename_i e; rw [e] at h; simp at h
 · rfl
theorem mac_to (l : List UInt8) (h : (parts 58 l).length = 6) : mac l = mTo (parts 58 l) 6 := by
 unfold mac mTo
 generalize parts 58 l = L at h
 match L, h with
 | [a, b, c, d, e, f], _ => rfl
theorem mTo_bd (L : List (List UInt8)) (k : Nat) (hk : k ≤ L.length) (h0 : 0 ≤ mTo L k) : mTo L k < 256 ^ k := by
 induction k with
 | zero => rw [mTo_zero]; decide
 | succ k ih =>
   rw [mTo_succ L k hk] at h0 ⊢
   obtain ⟨h1, q, hq, _, e⟩ := mstep_ok h0
   have := ih (by omega) h1
   rw [e, Int.pow_succ]; omega
theorem mTo_small (L : List (List UInt8)) (k : Nat) (hk : k ≤ L.length) (h5 : k ≤ 5) (h0 : 0 ≤ mTo L k) : mTo L k < 1099511627776 := by
 have h := mTo_bd L k hk h0
 have hc : k = 0 ∨ k = 1 ∨ k = 2 ∨ k = 3 ∨ k = 4 ∨ k = 5 := by omega
 rcases hc with rfl | rfl | rfl | rfl | rfl | rfl <;> simp at h <;> omega
theorem mstep_two (n : Int) (x y : UInt8) : mstep n [x, y] = if n < 0 ∨ hv x < 0 ∨ hv y < 0 then -1 else 256 * n + 16 * hv x + hv y := rfl
theorem mstep_len (n : Int) (w : List UInt8) (h : w.length ≠ 2) : mstep n w = -1 := by
 unfold mstep
 split
 · simp at h
 · rfl
theorem hv_bd (c : UInt8) : -1 ≤ hv c ∧ hv c ≤ 15 := by
 unfold hv; split
 · omega
 · split <;> omega
end Adr
namespace Go.Proofs.YtjdknhalcpkeaaaGreatDoor
open Go.RowKit
set_option maxHeartbeats 2000000 in
set_option maxRecDepth 100000 in
theorem mac_any (s : ByteArray) (w : World) (hE : Env w) (hs : s.size ≤ 100000000) :
 Calls Tryz.prog 193 #[.string s] w fun e w' => e = .returned (okRet (Adr.mac s.data.toList)) ∧ Below w.heap.size w w' := by
 have hm := Adr.macP_eq s.data.toList
 have hlen := strip_len s.data.toList 58
 rw [size_data] at hlen
 unfold Adr.macP at hm
 have HH := Lib.hid (show ∀ W, Env W → Calls Tryz.prog 207 #[.string ⟨(Lib.replaceAll s.data.toList [58] []).toArray⟩, .int .i64 16, .int .i64 48] W fun e w' => Parsed 243 (Adr.parseMac (Lib.replaceAll s.data.toList [58] [])) e ∧ Below W.heap.size W w' from
  fun W hW => by
   have := hex_any ⟨(Lib.replaceAll s.data.toList [58] []).toArray⟩ W hW (by rw [size_mk]; omega)
   rw [data_mk] at this; exact this)
 clear hlen
 rcases hp : Adr.parseMac (Lib.replaceAll s.data.toList [58] []) with _ | (_ | u)
 rotate_left 2
 ·
  have hu := Adr.parseMac_lt hp
  rw [hp] at hm
  simp only at hm
  have HP := Lib.hid hp
  clear hp
  by_cases he : Adr.macText u = s.data.toList
  · rw [if_pos he] at hm
    have HF := Lib.hid (show okRet (Adr.mac s.data.toList) = .tuple #[.int .i64 u, .bool true] by rw [← hm]; exact okRet_yes (by omega))
    have HE := Lib.hid he
    clear hm he
    go_enter Tryz.func193, Tryz.ntmps193
    go_wp2_with fail
    refine (strip_any s 58 _ hE hs).mono ?_
    rintro e w1 ⟨rfl, hb1⟩
    go_wp2_with fail
    refine (HH.out _ (hE.below hb1)).mono ?_
    rintro e w2 ⟨hpe, hb2⟩
    rw [HP.out] at hpe
    subst hpe
    go_wp2_with fail
    refine (macText_any u _ (by omega) (by omega)).mono ?_
    rintro e w3 ⟨rfl, hb3⟩
    rw [Int.toNat_natCast, HE.out, mk_data]
    go_wp2_with fail
    go_ret2
    exact ⟨by rw [HF.out]; rfl, below_step (below_step hb1 hb2) hb3⟩
  · rw [if_neg he] at hm
    have HF := Lib.hid (show okRet (Adr.mac s.data.toList) = .tuple #[.int .i64 0, .bool false] by rw [← hm]; exact okRet_no (by decide))
    have hne := str_ne he
    have HN := Lib.hid hne
    clear hm he hne
    go_enter Tryz.func193, Tryz.ntmps193
    go_wp2_with fail
    refine (strip_any s 58 _ hE hs).mono ?_
    rintro e w1 ⟨rfl, hb1⟩
    go_wp2_with fail
    refine (HH.out _ (hE.below hb1)).mono ?_
    rintro e w2 ⟨hpe, hb2⟩
    rw [HP.out] at hpe
    subst hpe
    go_wp2_with fail
    refine (macText_any u _ (by omega) (by omega)).mono ?_
    rintro e w3 ⟨rfl, hb3⟩
    rw [Int.toNat_natCast]
    have hne := HN.out
    generalize Adr.macText u = T at *
    go_wp2_with fail
    go_ret2
    exact ⟨by rw [HF.out]; rfl, below_step (below_step hb1 hb2) hb3⟩
 ·
  rw [hp] at hm
  simp only at hm
  have HF := Lib.hid (show okRet (Adr.mac s.data.toList) = .tuple #[.int .i64 0, .bool false] by rw [← hm]; exact okRet_no (by decide))
  have HP := Lib.hid hp
  clear hp hm
  go_enter Tryz.func193, Tryz.ntmps193
  go_wp2_with fail
  refine (strip_any s 58 _ hE hs).mono ?_
  rintro e w1 ⟨rfl, hb1⟩
  go_wp2_with fail
  refine (HH.out _ (hE.below hb1)).mono ?_
  rintro e w2 ⟨hpe, hb2⟩
  rw [HP.out] at hpe
  obtain ⟨p, rfl⟩ := hpe
  go_wp2_with fail
  refine (macText_any 0 _ (by decide) (by decide)).mono ?_
  rintro e w3 ⟨rfl, hb3⟩
  generalize Adr.macText (Int.toNat 0) = T at *
  go_wp2_with fail
  go_ret2
  exact ⟨by rw [HF.out]; rfl, below_step (below_step hb1 hb2) hb3⟩
 ·
  rw [hp] at hm
  simp only at hm
  have HF := Lib.hid (show okRet (Adr.mac s.data.toList) = .tuple #[.int .i64 0, .bool false] by rw [← hm]; exact okRet_no (by decide))
  have HP := Lib.hid hp
  clear hp hm
  go_enter Tryz.func193, Tryz.ntmps193
  go_wp2_with fail
  refine (strip_any s 58 _ hE hs).mono ?_
  rintro e w1 ⟨rfl, hb1⟩
  go_wp2_with fail
  refine (HH.out _ (hE.below hb1)).mono ?_
  rintro e w2 ⟨hpe, hb2⟩
  rw [HP.out] at hpe
  obtain ⟨p, rfl⟩ := hpe
  go_wp2_with fail
  refine (macText_any 281474976710655 _ (by decide) (by decide)).mono ?_
  rintro e w3 ⟨rfl, hb3⟩
  generalize Adr.macText (Int.toNat 281474976710655) = T at *
  go_wp2_with fail
  go_ret2
  exact ⟨by rw [HF.out]; rfl, below_step (below_step hb1 hb2) hb3⟩
set_option maxHeartbeats 2000000 in
set_option maxRecDepth 100000 in
theorem refMac_any (s : ByteArray) (w : World) (hs : s.size ≤ 100000000) :
 Calls Tryz.prog 150 #[.string s] w fun e w' => e = .returned (.int .i64 (Adr.mac s.data.toList)) ∧ Below w.heap.size w w' := by
 go_enter Tryz.func150, Tryz.ntmps150
 go_wp2_with fail
 refine (parts_any s 58 _ hs).mono ?_
 rintro e w1 ⟨A, cap, rfl, hc1, hc2, hR, hb1⟩
 have hps := Adr.parts_short 58 s.data.toList
 rw [size_data] at hps
 by_cases h4 : (Adr.parts 58 s.data.toList).length = 6
 · have HI := Lib.hid (Adr.mac_to _ h4)
   generalize Adr.parts 58 s.data.toList = L at *
   have H4 := Lib.hid h4
   rw [h4] at hR hc1 ⊢
   clear h4
   go_wp2_with fail
   go_loopw [4, 5] (fun o i wr => ∃ k : Nat, k ≤ 6 ∧ i = .int .i64 k ∧ o = .int .i64 (Adr.mTo L k) ∧ 0 ≤ Adr.mTo L k ∧ Below w1.heap.size w1 wr) (fun _ i _ => 6 - (intOf i).toNat)
   case atStart => exact ⟨0, by omega, rfl, by rw [Adr.mTo_zero], by rw [Adr.mTo_zero]; decide, Below.refl _ _⟩
   case round =>
    obtain ⟨k, hk, rfl, rfl, hn, hbr⟩ := hrel
    by_cases hk4 : k < 6
    · have hkL : k < L.length := by rw [H4.out]; exact hk4
      have hsuc := Adr.mTo_succ L k hkL
      have hstop := Adr.mTo_stop L (k + 1)
      have hbd := Adr.mTo_small L k (by omega) (by omega) hn
      have hget := strs_get hkL
      have hshort := hps L[k] (List.getElem_mem hkL)
      generalize L[k] = p at *
      generalize Adr.mTo L k = n at *
      obtain ⟨ad, rfl, had, hcell⟩ := (hR.below hbr).cell hget
      clear hget
      have fin : Adr.mstep n p = -1 → Hid (Adr.mac s.data.toList = -1) := fun e => by
       rw [e] at hsuc
       have := hstop (by rw [hsuc]; decide)
       have h2 := Adr.mac_ge s.data.toList
       rw [HI.out, ← H4.out] at h2
       refine Lib.hid ?_
       rw [HI.out, ← H4.out]; omega
      by_cases hlen : p.length = 2
      · match p, hlen with
        | [x, y], _ =>
          have hx := Adr.hv_bd x
          have hy := Adr.hv_bd y
          have hst := Adr.mstep_two n x y
          have hgx : (⟨[x, y].toArray⟩ : ByteArray)[0]'(by simp [ByteArray.size]) = x := rfl
          by_cases hbad : Adr.hv x < 0 ∨ Adr.hv y < 0
          · rw [if_pos (.inr hbad)] at hst
            have HF := fin hst
            clear fin hstop hsuc hst
            by_cases hx0 : Adr.hv x < 0
            · clear hbad
              go_wp2_with fail
              refine (value_any x _).mono ?_
              rintro e w3 ⟨rfl, rfl⟩
              go_wp2_with fail
              go_ret
              exact ⟨by rw [HF.out]; rfl, below_step hb1 hbr⟩
            · have hy0 : Adr.hv y < 0 := hbad.resolve_left hx0
              have hx0' : 0 ≤ Adr.hv x := by omega
              clear hbad hx0
              go_wp2_with fail
              refine (value_any x _).mono ?_
              rintro e w3 ⟨rfl, rfl⟩
              go_wp2_with fail
              refine (value_any y _).mono ?_
              rintro e w3 ⟨rfl, rfl⟩
              go_wp2_with fail
              go_ret
              exact ⟨by rw [HF.out]; rfl, below_step hb1 hbr⟩
          · have hx0 : 0 ≤ Adr.hv x := by omega
            have hy0 : 0 ≤ Adr.hv y := by omega
            rw [if_neg (by omega)] at hst
            rw [hst] at hsuc
            have HS := Lib.hid hsuc
            clear fin hstop hsuc hst hbad
            go_wp2_with fail
            refine (value_any x _).mono ?_
            rintro e w3 ⟨rfl, rfl⟩
            go_wp2_with fail
            refine (value_any y _).mono ?_
            rintro e w3 ⟨rfl, rfl⟩
            go_wp2_with fail
            have hw1 : IntKind.i64.wrap (256 * n) = 256 * n := IntWalk.i64_in _ (by omega)
            have hw2 : IntKind.i64.wrap (16 * Adr.hv x) = 16 * Adr.hv x := IntWalk.i64_in _ (by omega)
            have hw3 : IntKind.i64.wrap (256 * n + 16 * Adr.hv x) = 256 * n + 16 * Adr.hv x := IntWalk.i64_in _ (by omega)
            have hw4 : IntKind.i64.wrap (256 * n + 16 * Adr.hv x + Adr.hv y) = 256 * n + 16 * Adr.hv x + Adr.hv y := IntWalk.i64_in _ (by omega)
            go_quiet ((first | (go_at_call_of 177 (Value.int .u8 (x.toNat : Int)); exact quiet_left (value_any x _)) | (go_at_call 177; exact quiet_left (value_any y _))))
            clear hw1 hw2 hw3 hw4
            go_wp2_with fail
            go_roundw
            case rel => exact ⟨k + 1, by omega, by go_num, by rw [HS.out], by rw [HS.out]; omega, below_drewN hbr _⟩
            case measure => simp [intOf]; omega
      · have HF := fin (Adr.mstep_len n p hlen)
        have hne : ((p.length : Int) != 2) = true := by rw [bne_iff_ne]; omega
        clear fin hstop hsuc hlen
        go_wp2_with fail
        go_ret
        exact ⟨by rw [HF.out]; rfl, below_step hb1 hbr⟩
    · have hk4' : 6 ≤ k := by omega
      have HF := Lib.hid (show Adr.mac s.data.toList = Adr.mTo L k by
       obtain rfl : k = 6 := by omega
       rw [HI.out])
      clear hk4
      go_wp2_with fail
      go_ret
      exact ⟨by rw [HF.out]; rfl, below_step hb1 hbr⟩
 · have HF := Lib.hid (Adr.mac_not _ h4)
   have hne : (((Adr.parts 58 s.data.toList).length : Int) == 6) = false := by rw [beq_eq_false_iff_ne]; omega
   clear h4
   go_wp2_with fail
   go_ret
   exact ⟨by rw [HF.out]; rfl, hb1⟩
end Go.Proofs.YtjdknhalcpkeaaaGreatDoor
namespace Go.Proofs.YtjdknhalcpkeaaaGreatDoor
open Go Go.RowKit
theorem bytes_eq_iff {a b : ByteArray} : (a.toList == b.toList) = decide (a = b) := by
 rw [Bool.eq_iff_iff, beq_iff_eq, decide_eq_true_eq]
 exact ⟨fun h => ByteArray.ext (Array.toList_inj.1 (by rwa [Lib.toList_data, Lib.toList_data] at h)), fun h => by rw [h]⟩
theorem nonempty_list {s : ByteArray} (h : 0 < s.size) : s.toList.isEmpty = false := by
 rw [Lib.toList_data, List.isEmpty_eq_false_iff]; intro e
 have : s.data.toList.length = 0 := by rw [e]; rfl
 rw [size_data] at this; omega
theorem info_set : (Tryz.prog.info? 172).map (fun i => (i.zero, i.size)) = some (some (.agg (Array.replicate 256 (.bool false))), 256) := by kernel_rfl
theorem trimRight_any (s chars : ByteArray) (w : World) (hs : s.size ≤ 100000000) (hc2 : chars.size ≤ 100000000) (hascii : chars.data.toList.all (fun b => decide (b.toNat < 128)) = true) :
 Calls Tryz.prog 87 #[.string s, .string chars] w fun e w' => e = .returned (.string ⟨(Lib.trimRightS s.data.toList chars.data.toList).toArray⟩) ∧ Below w.heap.size w w' :=
 Any.strings_TrimRight_laid Tryz.lays162 info_set s chars w (by omega) (by omega) (ascii_of_all hascii)
theorem trim_any (s chars : ByteArray) (w : World) (hs : s.size ≤ 100000000) (hc2 : chars.size ≤ 100000000) (hascii : chars.data.toList.all (fun b => decide (b.toNat < 128)) = true) :
 Calls Tryz.prog 206 #[.string s, .string chars] w fun e w' => e = .returned (.string ⟨(Lib.trimS s.data.toList chars.data.toList).toArray⟩) ∧ Below w.heap.size w w' :=
 Any.strings_Trim_laid Tryz.lays160 info_set s chars w (by omega) (by omega) (ascii_of_all hascii)
end Go.Proofs.YtjdknhalcpkeaaaGreatDoor
