import Derived.Deep.RegionHeld3
import Derived.BigRegion
import Derived.Deep.RegionLaw
import Derived.Deep.AppendLies
import Derived.Shelf.Strings.SlTrimAscii
import Derived.Test.YtdamidelojccaaaGreatDoorJ03
set_option maxHeartbeats 2000000
set_option maxRecDepth 100000
namespace Adr
open Go
theorem good_no {n k : Int} (h : ¬ (0 ≤ n ∧ 0 ≤ k ∧ k ≤ 32 ∧ right n k = true)) : good n k = false := by
 rw [Ycy];unfold good;simp only [ne_eq, Yar, Yao];rintro ⟨⟨⟨a, b⟩, c⟩, d⟩;exact h ⟨a, b, c, d⟩
theorem first_slash (l : List UInt8) (h : (47 : UInt8) ∈ l) : ∃ a r, l = a ++ 47 :: r ∧ (47 : UInt8) ∉ a := first_at 47 l h
theorem numIn_32 {b : List UInt8} (h : numIn b 0 32 = true) : 0 ≤ num b ∧ num b ≤ 32 := by
 have := (numIn_iff _ _ _).1 h; omega
theorem not_numIn_32 {b : List UInt8} (h : numIn b 0 32 = false) : ¬ (0 ≤ num b ∧ num b ≤ 32) := by
 intro a;have := (numIn_iff b 0 32).2 ⟨a.1, a.1, a.2⟩;rw [h] at this; cases this
end Adr
namespace Go.Proofs.Zq
open Tryz
open Go.RowKit
def Zjb (p : Int × Int) : Value := .tuple #[.int .i64 (max p.1 0), .int .i64 p.2, .bool (decide (0 ≤ p.1))]
theorem Zafa {p : Int × Int} (h : 0 ≤ p.1) : Zjb p = .tuple #[.int .i64 p.1, .int .i64 p.2, .bool true] := by
 unfold Zjb; rw [show max p.1 0 = p.1 by omega]; simp [h]
theorem Znk : Zjb (-1, 0) = .tuple #[.int .i64 0, .int .i64 0, .bool false] := by
 unfold Zjb; simp; decide
theorem Zaix (s : ByteArray) (w : World) (hE : Env w) (hs : s.size ≤ 100000000) :
 Calls prog 160 #[.string s] w fun e w' => e = .returned (Zjb (Adr.pre s.data.toList)) ∧ Below w.heap.size w w' := by
 by_cases hc : (47 : UInt8) ∈ s.data.toList
 · obtain ⟨a, r, hl, ha⟩ := Adr.first_slash _ hc;have hp : Adr.pre s.data.toList = if Adr.good (Adr.ip a) (Adr.num r) then (Adr.ip a, Adr.num r) else (-1, 0) := by
    rw [hl, Adr.pre_hit a r ha]; unfold Adr.preCut; simp
   have hsz := Zat s;have hln : a.length + (r.length + 1) = s.size := by rw [← hsz, hl]; simp
   have hla : a.length ≤ 100000000 := by omega
   have hlr : r.length ≤ 100000000 := by omega
   have HL := Zhd hl;clear hl hsz hln hc;have HN := Zhd (show ∀ W, Env W → Calls prog 191 #[.string ⟨r.toArray⟩, .int .i64 0, .int .i64 32] W fun e w' => e = .returned (Zll ⟨r.toArray⟩ 0 32) ∧ Below W.heap.size W w' from
    fun W hW => Zoo ⟨r.toArray⟩ 0 32 W hW (by rw [Zeo]; omega))
   have HI := Zhd (show ∀ W, Env W → Calls prog 161 #[.string ⟨a.toArray⟩] W fun e w' => e = .returned (Zli (Adr.ip a)) ∧ Below W.heap.size W w' from
    fun W hW => by
     have := Zacd ⟨a.toArray⟩ W hW (by rw [Zeo]; omega)
     rw [Zch] at this; exact this)
   by_cases hip : 0 ≤ Adr.ip a
   · have HIR := Zhd (Zrv hip);cases hin : Adr.numIn r 0 32 with
     | true =>
       have hb := Adr.numIn_32 hin;have HNR := Zhd (Zoa (s := ⟨r.toArray⟩) (by rw [Zch]; exact hin))
       cases hr : Adr.right (Adr.ip a) (Adr.num r) with
       | true =>
         rw [Adr.good_right hr, Yan rfl] at hp;have HF := Zhd (show Zjb (Adr.pre s.data.toList) = .tuple #[.int .i64 (Adr.ip a), .int .i64 (Adr.num r), .bool true] by rw [hp]; exact Zafa hip)
         have HR := Zhd hr;clear hp hr hin;go_enter func160, ntmps160;go_wp2_with fail;refine (Zqg s 47 a r _ hE hs HL.out ha).mono ?_;rintro e w1 ⟨rfl, hb1⟩;go_wp2_with fail;refine (HI.out _ (hE.below hb1)).mono ?_;rintro e w2 ⟨rfl, hb2⟩;rw [HIR.out];go_wp2_with fail;refine (HN.out _ ((hE.below hb1).below hb2)).mono ?_;rintro e w3 ⟨rfl, hb3⟩;rw [HNR.out];go_wp2_with fail;refine (Zhl _ _ _).mono ?_;rintro e w4 ⟨rfl, rfl⟩;rw [HR.out];go_wp2_with fail;go_ret3;exact ⟨by rw [HF.out]; simp, Zaa (Zaa hb1 hb2) hb3⟩
       | false =>
         rw [Adr.good_no (by rw [hr]; simp), Yab (by simp)] at hp
         have HF := Zhd (show Zjb (Adr.pre s.data.toList) = .tuple #[.int .i64 0, .int .i64 0, .bool false] by rw [hp]; exact Znk)
         have HR := Zhd hr;clear hp hr hin;go_enter func160, ntmps160;go_wp2_with fail;refine (Zqg s 47 a r _ hE hs HL.out ha).mono ?_;rintro e w1 ⟨rfl, hb1⟩;go_wp2_with fail;refine (HI.out _ (hE.below hb1)).mono ?_;rintro e w2 ⟨rfl, hb2⟩;rw [HIR.out];go_wp2_with fail;refine (HN.out _ ((hE.below hb1).below hb2)).mono ?_;rintro e w3 ⟨rfl, hb3⟩;rw [HNR.out];go_wp2_with fail;refine (Zhl _ _ _).mono ?_;rintro e w4 ⟨rfl, rfl⟩;rw [HR.out];go_wp2_with fail;go_ret3;exact ⟨by rw [HF.out]; rfl, Zaa (Zaa hb1 hb2) hb3⟩
     | false =>
       have hnb := Adr.not_numIn_32 hin;rw [Adr.good_no (fun h => hnb ⟨h.2.1, h.2.2.1⟩), Yab (by simp)] at hp
       have HNR := Zhd (Zjm (s := ⟨r.toArray⟩) (by rw [Zch]; exact hin))
       have HF := Zhd (show Zjb (Adr.pre s.data.toList) = .tuple #[.int .i64 0, .int .i64 0, .bool false] by rw [hp]; exact Znk)
       clear hp hin hnb;go_enter func160, ntmps160;go_wp2_with fail;refine (Zqg s 47 a r _ hE hs HL.out ha).mono ?_;rintro e w1 ⟨rfl, hb1⟩;go_wp2_with fail;refine (HI.out _ (hE.below hb1)).mono ?_;rintro e w2 ⟨rfl, hb2⟩;rw [HIR.out];go_wp2_with fail;refine (HN.out _ ((hE.below hb1).below hb2)).mono ?_;rintro e w3 ⟨rfl, hb3⟩;rw [HNR.out];go_wp2_with fail;go_ret3;exact ⟨by rw [HF.out]; rfl, Zaa (Zaa hb1 hb2) hb3⟩
   · have HIR := Zhd (Zkm (n := Adr.ip a) (by omega))
     rw [Adr.good_no (fun h => hip h.1), Yab (by simp)] at hp
     have HF := Zhd (show Zjb (Adr.pre s.data.toList) = .tuple #[.int .i64 0, .int .i64 0, .bool false] by rw [hp]; exact Znk)
     clear hp;have HNR : Hid (∃ x y, Zll ⟨r.toArray⟩ 0 32 = .tuple #[.int .i64 x, .bool y]) := Zhd ⟨_, _, rfl⟩;obtain ⟨x, y, hxy⟩ := HNR.out;have HNR' := Zhd hxy;clear hxy HNR hip;go_enter func160, ntmps160;go_wp2_with fail;refine (Zqg s 47 a r _ hE hs HL.out ha).mono ?_;rintro e w1 ⟨rfl, hb1⟩;go_wp2_with fail;refine (HI.out _ (hE.below hb1)).mono ?_;rintro e w2 ⟨rfl, hb2⟩;rw [HIR.out];go_wp2_with fail;refine (HN.out _ ((hE.below hb1).below hb2)).mono ?_;rintro e w3 ⟨rfl, hb3⟩;rw [HNR'.out];go_wp2_with fail;go_ret3;exact ⟨by rw [HF.out]; rfl, Zaa (Zaa hb1 hb2) hb3⟩
 · have HF := Zhd (show Zjb (Adr.pre s.data.toList) = .tuple #[.int .i64 0, .int .i64 0, .bool false] by rw [Adr.pre_miss _ hc]; exact Znk)
   obtain ⟨x, y, hxy⟩ : ∃ x y, Zli (Adr.ip s.data.toList) = .tuple #[.int .i64 x, .bool y] := ⟨_, _, rfl⟩;have HIR := Zhd hxy;obtain ⟨x', y', hxy'⟩ : ∃ x y, Zll ⟨#[]⟩ 0 32 = .tuple #[.int .i64 x, .bool y] := ⟨_, _, rfl⟩;have HNR := Zhd hxy';clear hxy hxy';have HC := Zhd hc;clear hc;go_enter func160, ntmps160;go_wp2_with fail;refine (Zasv s 47 _ hE hs HC.out).mono ?_;rintro e w1 ⟨rfl, hb1⟩;go_wp2_with fail;refine (Zacd s _ (hE.below hb1) hs).mono ?_;rintro e w2 ⟨rfl, hb2⟩;rw [HIR.out];go_wp2_with fail;refine (Zoo ⟨#[]⟩ 0 32 _ ((hE.below hb1).below hb2) (by decide)).mono ?_
   rintro e w3 ⟨rfl, hb3⟩;rw [HNR.out];go_wp2_with fail;go_ret3;exact ⟨by rw [HF.out]; rfl, Zaa (Zaa hb1 hb2) hb3⟩
end Go.Proofs.Zq
namespace Adr
open Go
end Adr
namespace Go.Proofs.Zq
open Tryz
open Go.RowKit
theorem Zagg (l m : List UInt8) : ((⟨l.toArray⟩ : ByteArray) ++ (⟨m.toArray⟩ : ByteArray)) = ⟨(l ++ m).toArray⟩ := by
 apply ByteArray.ext; simp
end Go.Proofs.Zq
namespace Adr
open Go Go.Lib
end Adr
namespace Go.Proofs.Zq
open Tryz
open Go.RowKit
theorem Znq (x : Int) (h0 : 0 ≤ x) (h : x < 9223372036854775808) : bits .and .i64 x 255 = x % 256 := by
 obtain ⟨a, rfl⟩ := Yca h0;have e : (255 : Int) = ((255 : Nat) : Int) := rfl;rw [e, Adr.and_nat a 255 (by omega) (by decide)]
 have := Yeg a 8;simp only [Nat.reducePow, Nat.add_one_sub_one] at this;rw [show (255 : Nat) = 256 - 1 by decide, this]; omega
theorem Zyj (i : Int) (h0 : 0 ≤ i) (h : i < 16) (W : World) : (Instr.index 9 (.string ⟨#[48, 49, 50, 51, 52, 53, 54, 55, 56, 57, 97, 98, 99, 100, 101, 102]⟩) (.int .i64 i)).run prog W = .ok (.int .u8 ((Adr.hexd i.toNat).toNat : Int)) W := by
 have hc : i = 0 ∨ i = 1 ∨ i = 2 ∨ i = 3 ∨ i = 4 ∨ i = 5 ∨ i = 6 ∨ i = 7 ∨ i = 8 ∨ i = 9 ∨ i = 10 ∨ i = 11 ∨ i = 12 ∨ i = 13 ∨ i = 14 ∨ i = 15 := by omega
 rcases hc with rfl | rfl | rfl | rfl | rfl | rfl | rfl | rfl | rfl | rfl | rfl | rfl | rfl | rfl | rfl | rfl <;> rfl
theorem Zuo (W : World) (a b : UInt8) : (convert 215 9 (.slice (some ⟨W.heap.size, 0, none⟩) 2 2)).run prog (W.alloc (.cells #[.int .u8 (a.toNat : Int), .int .u8 (b.toNat : Int)] 5)).drew =
 .ok (.string ⟨#[a, b]⟩) (W.alloc (.cells #[.int .u8 (a.toNat : Int), .int .u8 (b.toNat : Int)] 5)).drew := by
 refine run_convert_bytes_back _ 215 9 5 _ _ [a, b] underlying215 underlying5 underlying9 fun j hj => ?_
 show (W.alloc _).cell? _ = _;rw [Zae, Ybf, World.cell?_alloc_at _ _ _ _ rfl]
 match j, hj with
 | 0, _ => rfl
 | 1, _ => rfl
theorem Zawl (x : Int) (h0 : 0 ≤ x) (h : x < 9223372036854775808) : bits .and .i64 x 15 = x % 16 := by
 obtain ⟨a, rfl⟩ := Yca h0;have e : (15 : Int) = ((15 : Nat) : Int) := rfl;rw [e, Adr.and_nat a 15 (by omega) (by decide)]
 have := Yeg a 4;rw [show (2 : Nat) ^ 4 - 1 = 15 by decide, show (2 : Nat) ^ 4 = 16 by decide] at this
 rw [this]; omega
def Zey (n : Nat) : List (List UInt8) := [Adr.mac2 (n / 1099511627776 % 256), Adr.mac2 (n / 4294967296 % 256), Adr.mac2 (n / 16777216 % 256), Adr.mac2 (n / 65536 % 256), Adr.mac2 (n / 256 % 256), Adr.mac2 (n % 256)]
theorem Zaob (W : World) (x : Value) (T H : Nat) (hH : W.heap.size = H) : ∀ j u, [x][j]? = some u → (W.alloc (.cells #[x] T)).drew.cell? ((⟨H, 0, none⟩ : Addr).add j) = some u := by
 intro j u hu;subst hH;show (W.alloc _).cell? _ = _;rw [Zae, Ybf, World.cell?_alloc_at _ _ _ _ rfl];simpa using hu
theorem Zagm (n : Int) (k : Nat) (sh : Int) (hsh : sh = 40 - 8 * (k : Int)) (hk : k < 6) (h0 : 0 ≤ n) (h : n < 281474976710656) :
 bits .and .i64 (n / 2 ^ sh.toNat) 255 = n / 2 ^ sh.toNat % 256 ∧ (Zey n.toNat)[k]? = some (Adr.mac2 (n / 2 ^ sh.toNat % 256).toNat) := by
 have hc : k = 0 ∨ k = 1 ∨ k = 2 ∨ k = 3 ∨ k = 4 ∨ k = 5 := by omega
 have e : sh.toNat = 40 - 8 * k := by omega
 rw [e];rcases hc with rfl | rfl | rfl | rfl | rfl | rfl
 · rw [show (2 : Int) ^ (40 - 8 * 0) = 1099511627776 by decide]
   exact ⟨Znq _ (by omega) (by omega), by rw [show (n / 1099511627776 % 256).toNat = n.toNat / 1099511627776 % 256 by omega]; rfl⟩
 · rw [show (2 : Int) ^ (40 - 8 * 1) = 4294967296 by decide]
   exact ⟨Znq _ (by omega) (by omega), by rw [show (n / 4294967296 % 256).toNat = n.toNat / 4294967296 % 256 by omega]; rfl⟩
 · rw [show (2 : Int) ^ (40 - 8 * 2) = 16777216 by decide]
   exact ⟨Znq _ (by omega) (by omega), by rw [show (n / 16777216 % 256).toNat = n.toNat / 16777216 % 256 by omega]; rfl⟩
 · rw [show (2 : Int) ^ (40 - 8 * 3) = 65536 by decide]
   exact ⟨Znq _ (by omega) (by omega), by rw [show (n / 65536 % 256).toNat = n.toNat / 65536 % 256 by omega]; rfl⟩
 · rw [show (2 : Int) ^ (40 - 8 * 4) = 256 by decide]
   exact ⟨Znq _ (by omega) (by omega), by rw [show (n / 256 % 256).toNat = n.toNat / 256 % 256 by omega]; rfl⟩
 · rw [show (2 : Int) ^ (40 - 8 * 5) = 1 by decide]
   exact ⟨Znq _ (by omega) (by omega), by rw [show (n / 1 % 256).toNat = n.toNat % 256 by omega]; rfl⟩
theorem Zans {L : List (List UInt8)} {k : Nat} {p : List UInt8} (h : L[k]? = some p) : strs (L.take (k + 1)) = strs (L.take k) ++ [.string ⟨p.toArray⟩] := by
 obtain ⟨hk, e⟩ := Yba.1 h;rw [Yau hk, Zaaz, e]; rfl
theorem Zaqm (k : Int) (h0 : 0 ≤ k) : Adr.mac2 k.toNat = [Adr.hexd (k / 16).toNat, Adr.hexd (k % 16).toNat] := by
 unfold Adr.mac2;rw [show (k / 16).toNat = k.toNat / 16 by omega, show (k % 16).toNat = k.toNat % 16 by omega]
theorem Zio (n : Int) (w : World) (h0 : 0 ≤ n) (h : n < 281474976710656) :
 Calls prog 214 #[.int .i64 n] w fun e w' => e = .returned (.tuple #[.string ⟨(Adr.macText n.toNat).toArray⟩, .bool true]) ∧ Below w.heap.size w w' := by
 obtain ⟨i0, hi, hz0, hz1, hz2⟩ := info_parts Zdx;go_enter func214, ntmps214;go_wp2_with fail;go_loopw [4, 5, 6] (fun v i _ wr => ∃ k : Nat, k ≤ 6 ∧ i = .int .i64 (40 - 8 * k) ∧ wr.ownsRow w.heap.size 9 1 v k (strs ((Zey n.toNat).take k)) ∧ Below w.heap.size w wr) (fun _ i _ _ => (intOf i + 8).toNat)
 case atStart => exact ⟨0, by omega, rfl, World.ownsRow_nil _ _ _ _, Yac _ _⟩
 case round =>
  obtain ⟨k, hk, rfl, hown, hb⟩ := hrel;by_cases h6 : k < 6
  · obtain ⟨sh, hsh⟩ : ∃ sh, sh = 40 - 8 * (k : Int) := ⟨_, rfl⟩;rw [← hsh];have hs1 : 0 ≤ sh := by omega
    have hs2 : sh ≤ 40 := by omega
    have Hsh := Zhd hsh;obtain ⟨ha, hp⟩ := Zagm n k sh hsh h6 h0 h;have hk1a : 0 ≤ n / 2 ^ sh.toNat % 256 := by omega
    have hk1b : n / 2 ^ sh.toNat % 256 < 256 := by omega
    generalize hk1 : n / 2 ^ sh.toNat % 256 = k1 at *;have Hp := Zhd hp;clear hsh hp hk1;have hi1 := Zyj (k1 / 16) (by omega) (by omega)
    have hj1 := Zyj (k1 % 16) (by omega) (by omega)
    have hf1 := Zawl k1 (by omega) (by omega)
    have hcv := Zuo wr (Adr.hexd (k1 / 16).toNat) (Adr.hexd (k1 % 16).toNat);go_wp2_with fail;go_region_law (refine Zaro (by rfl) _ _ 33 (by rfl) w 9 i0 _ 1 16 underlying33 hi hz0 hz1 hz2 rfl (by decide) (by decide) (((hown.alloc _).alloc _).drew) (((hb.alloc hb.size _).alloc (Yas hb.size (by simp)) _).drew) (by rfl) ⟨wr.heap.size + 1, 0, none⟩ 1 1 [.string ⟨#[Adr.hexd (k1 / 16).toNat, Adr.hexd (k1 % 16).toNat]⟩] (by rfl) (by rfl) (Zaob _ _ _ _ (by simp)) (by simp; rfl) (by omega) ?_; intro v2 x2 hown2 hc2)
    all_goals
     go_wp2_with fail;go_roundw
     case rel =>
      refine ⟨k + 1, by omega, ?_, ?_, hc2⟩
      · rw [Hsh.out]; go_num
      · have e := Zans Hp.out;rw [Zaqm k1 hk1a] at e;rw [e]; exact hown2
     case measure => simp [intOf]; omega
  · have hk6 : 6 ≤ k := by omega
    have e6 : k = (Zey n.toNat).length := by show k = 6; omega
    have hfree : ∀ p ∈ Zey n.toNat, p.length ≤ 2 := by
     intro p hp;unfold Zey at hp;simp only [Yaw, Ybv, or_false] at hp;rcases hp with rfl | rfl | rfl | rfl | rfl | rfl <;> exact Yaf 2
    have Hlen := Zhd (Zaox 58 (Zey n.toNat) 2 hfree);have E6 := Zhd e6;clear h6 e6 hfree;obtain ⟨A, cap, rfl, hcap, _, hrd⟩ := Zbc hown;have hsp := Zhd (Zabi hown);have Hrd := Zhd (show Rd wr 1 A (Zey n.toNat).length (strs (Zey n.toNat)) by
     rw [E6.out, Ybw] at hrd; exact hrd)
    have HJ := Zhd (show Calls prog 122 #[.slice A k cap, .string ⟨#[58]⟩] wr fun e w' => e = .returned (.string ⟨(Adr.glue 58 (Zey n.toNat)).toArray⟩) ∧ Below wr.heap.size wr w' by
     have := Zadq A cap (Zey n.toNat) 58 wr (by rw [← E6.out]; exact hcap) Hrd.out hsp.out (Yas Hlen.out (by show 6 * 3 ≤ _; decide)) (by show 6 ≤ _; decide)
     rw [← E6.out] at this; exact this)
    clear hown hrd;go_wp2_with fail;refine HJ.out.mono ?_;rintro e w5 ⟨rfl, hb5⟩;go_wp2_with fail;go_ret2;exact ⟨rfl, Zaa hb hb5⟩
end Go.Proofs.Zq
namespace Adr
open Go
end Adr
namespace Go.Proofs.Zq
open Tryz
open Go.RowKit
end Go.Proofs.Zq
namespace Adr
open Go
end Adr
namespace Go.Proofs.Zq
open Tryz
open Go.RowKit
theorem Zavf (s : ByteArray) (w : World) (hE : Env w) (hs : s.size ≤ 100000000) :
 Calls prog 190 #[.string s] w fun e w' => e = .returned (Zli (Adr.mac s.data.toList)) ∧ Below w.heap.size w w' := by
 have hm := Adr.macP_eq s.data.toList;have hlen := Zakn s.data.toList 58;rw [Zat] at hlen;unfold Adr.macP at hm;have HH := Zhd (show ∀ W, Env W → Calls prog 212 #[.string ⟨(Lib.replaceAll s.data.toList [58] []).toArray⟩, .int .i64 16, .int .i64 48] W fun e w' => Zaiz 288 (Adr.parseMac (Lib.replaceAll s.data.toList [58] [])) e ∧ Below W.heap.size W w' from
  fun W hW => by
   have := Zawb ⟨(Lib.replaceAll s.data.toList [58] []).toArray⟩ W hW (by rw [Zeo]; omega)
   rw [Zch] at this; exact this)
 clear hlen;rcases hp : Adr.parseMac (Lib.replaceAll s.data.toList [58] []) with _ | (_ | u)
 rotate_left 2
 ·
  have hu := Adr.parseMac_lt hp;rw [hp] at hm;simp only at hm;have HP := Zhd hp;clear hp;by_cases he : Adr.macText u = s.data.toList
  · rw [Yan he] at hm;have HF := Zhd (show Zli (Adr.mac s.data.toList) = .tuple #[.int .i64 u, .bool true] by rw [← hm]; exact Zrv (by omega))
    have HE := Zhd he;clear hm he;go_enter func190, ntmps190;go_wp2_with fail;refine (Zng s 58 _ hE hs).mono ?_;rintro e w1 ⟨rfl, hb1⟩;go_wp2_with fail;refine (HH.out _ (hE.below hb1)).mono ?_;rintro e w2 ⟨hpe, hb2⟩;rw [HP.out] at hpe;subst hpe;go_wp2_with fail;refine (Zio u _ (by omega) (by omega)).mono ?_
    rintro e w3 ⟨rfl, hb3⟩;rw [Ybq, HE.out, mk_data];go_wp2_with fail;go_ret2;exact ⟨by rw [HF.out]; rfl, Zaa (Zaa hb1 hb2) hb3⟩
  · rw [Yab he] at hm;have HF := Zhd (show Zli (Adr.mac s.data.toList) = .tuple #[.int .i64 0, .bool false] by rw [← hm]; exact Zkm (by decide))
    have hne := Zatd he;have HN := Zhd hne;clear hm he hne;go_enter func190, ntmps190;go_wp2_with fail;refine (Zng s 58 _ hE hs).mono ?_;rintro e w1 ⟨rfl, hb1⟩;go_wp2_with fail;refine (HH.out _ (hE.below hb1)).mono ?_;rintro e w2 ⟨hpe, hb2⟩;rw [HP.out] at hpe;subst hpe;go_wp2_with fail;refine (Zio u _ (by omega) (by omega)).mono ?_
    rintro e w3 ⟨rfl, hb3⟩;rw [Ybq];have hne := HN.out;generalize Adr.macText u = T at *;go_wp2_with fail;go_ret2;exact ⟨by rw [HF.out]; rfl, Zaa (Zaa hb1 hb2) hb3⟩
 ·
  rw [hp] at hm;simp only at hm;have HF := Zhd (show Zli (Adr.mac s.data.toList) = .tuple #[.int .i64 0, .bool false] by rw [← hm]; exact Zkm (by decide))
  have HP := Zhd hp;clear hp hm;go_enter func190, ntmps190;go_wp2_with fail;refine (Zng s 58 _ hE hs).mono ?_;rintro e w1 ⟨rfl, hb1⟩;go_wp2_with fail;refine (HH.out _ (hE.below hb1)).mono ?_;rintro e w2 ⟨hpe, hb2⟩;rw [HP.out] at hpe;obtain ⟨p, rfl⟩ := hpe;go_wp2_with fail;refine (Zio 0 _ (by decide) (by decide)).mono ?_
  rintro e w3 ⟨rfl, hb3⟩;generalize Adr.macText (Int.toNat 0) = T at *;go_wp2_with fail;go_ret2;exact ⟨by rw [HF.out]; rfl, Zaa (Zaa hb1 hb2) hb3⟩
 ·
  rw [hp] at hm;simp only at hm;have HF := Zhd (show Zli (Adr.mac s.data.toList) = .tuple #[.int .i64 0, .bool false] by rw [← hm]; exact Zkm (by decide))
  have HP := Zhd hp;clear hp hm;go_enter func190, ntmps190;go_wp2_with fail;refine (Zng s 58 _ hE hs).mono ?_;rintro e w1 ⟨rfl, hb1⟩;go_wp2_with fail;refine (HH.out _ (hE.below hb1)).mono ?_;rintro e w2 ⟨hpe, hb2⟩;rw [HP.out] at hpe;obtain ⟨p, rfl⟩ := hpe;go_wp2_with fail;refine (Zio 281474976710655 _ (by decide) (by decide)).mono ?_
  rintro e w3 ⟨rfl, hb3⟩;generalize Adr.macText (Int.toNat 281474976710655) = T at *;go_wp2_with fail;go_ret2;exact ⟨by rw [HF.out]; rfl, Zaa (Zaa hb1 hb2) hb3⟩
open Go
theorem Zwv {a b : ByteArray} : (a.toList == b.toList) = decide (a = b) := by
 rw [Ycj, beq_iff_eq, Yao];exact ⟨fun h => ByteArray.ext (Ydz.1 (by rwa [Lib.toList_data, Lib.toList_data] at h)), fun h => by rw [h]⟩
theorem Zfr {s : ByteArray} (h : 0 < s.size) : s.toList.isEmpty = false := by
 rw [Lib.toList_data, List.isEmpty_eq_false_iff]; intro e;have : s.data.toList.length = 0 := by rw [e]; rfl
 rw [Zat] at this; omega
theorem Zacu : (prog.info? 177).map (fun i => (i.zero, i.size)) = some (some (.agg (Array.replicate 256 (.bool false))), 256) := by kernel_rfl
theorem Zwh (s chars : ByteArray) (w : World) (hs : s.size ≤ 100000000) (hc2 : chars.size ≤ 100000000) (hascii : chars.data.toList.all (fun b => decide (b.toNat < 128)) = true) :
 Calls prog 81 #[.string s, .string chars] w fun e w' => e = .returned (.string ⟨(Lib.trimRightS s.data.toList chars.data.toList).toArray⟩) ∧ Below w.heap.size w w' :=
 Any.strings_TrimRight_laid Tryz.lays162 Zacu s chars w (by omega) (by omega) (ascii_of_all hascii)
theorem Zadm (s chars : ByteArray) (w : World) (hs : s.size ≤ 100000000) (hc2 : chars.size ≤ 100000000) (hascii : chars.data.toList.all (fun b => decide (b.toNat < 128)) = true) :
 Calls prog 211 #[.string s, .string chars] w fun e w' => e = .returned (.string ⟨(Lib.trimS s.data.toList chars.data.toList).toArray⟩) ∧ Below w.heap.size w w' :=
 Any.strings_Trim_laid Tryz.lays160 Zacu s chars w (by omega) (by omega) (ascii_of_all hascii)
end Go.Proofs.Zq
namespace Lx
open Go Go.Lib
theorem Zatc (x : UInt8) : -1 ≤ indexByte hexL x ∧ indexByte hexL x < 16 := by
 have : ∀ n : Fin 256, -1 ≤ indexByte hexL (UInt8.ofNat n) ∧ indexByte hexL (UInt8.ofNat n) < 16 := by decide +kernel
 have h := this ⟨x.toNat, x.toNat_lt⟩;simpa using h
def Ziy (d : UInt8) (r : List UInt8) : UInt8 × Nat :=
 if d = 34 ∨ d = 92 then (d, 2)
 else if d ≠ 120 then (0, 0)
 else match r with
  | x :: y :: _ => if indexByte hexL x < 0 ∨ indexByte hexL y < 0 then (0, 0) else (UInt8.ofNat ((indexByte hexL x).toNat * 16 + (indexByte hexL y).toNat), 4)
  | _ => (0, 0)
theorem Zhs (c : UInt8) (l : List UInt8) : Zcv (c :: l) = if c = 34 ∨ c.toNat < 32 ∨ 126 < c.toNat then (0, 0) else if c ≠ 92 then (c, 1) else match l with | [] => (0, 0) | d :: r => Ziy d r := rfl
theorem Zalj (d : UInt8) (r : List UInt8) : (Ziy d r).2 ≤ r.length + 2 := by
 unfold Ziy;by_cases h1 : d = 34 ∨ d = 92
 · rw [Yan h1]; simp
 · rw [Yab h1];by_cases h2 : d ≠ 120
   · rw [Yan h2]; simp
   · rw [Yab h2];rcases r with _ | ⟨x, _ | ⟨y, r⟩⟩
     · simp
     · simp
     · simp only;split
       · simp
       · simp
theorem Zaod (c : UInt8) (l : List UInt8) : (Zcv (c :: l)).2 ≤ (c :: l).length := by
 rw [Zhs];by_cases h1 : c = 34 ∨ c.toNat < 32 ∨ 126 < c.toNat
 · rw [Yan h1]; simp
 · rw [Yab h1];by_cases h2 : c ≠ 92
   · rw [Yan h2]; simp
   · rw [Yab h2];cases l with
     | nil => simp
     | cons d r => have := Zalj d r; simp only [Ybi]; omega
theorem Zlx (c : UInt8) (l : List UInt8) (h : c.toNat = 34 ∨ c.toNat < 32 ∨ 126 < c.toNat) : Zcv (c :: l) = (0, 0) := by
 rw [Zhs, Yan];rcases h with h | h | h
 · exact .inl (Ybz.1 h)
 · exact .inr (.inl h)
 · exact .inr (.inr h)
theorem Zabf (c : UInt8) (l : List UInt8) (h1 : c.toNat ≠ 34) (h2 : ¬ c.toNat < 32) (h3 : ¬ 126 < c.toNat) (h4 : c.toNat ≠ 92) : Zcv (c :: l) = (c, 1) := by
 rw [Zhs, Yab (fun h => ?_), Yan (fun h => h4 (by rw [h]; rfl))]
 rcases h with h | h | h
 · exact h1 (by rw [h]; rfl)
 · exact h2 h
 · exact h3 h
theorem Zju (d : UInt8) (r : List UInt8) : Zcv (92 :: d :: r) = Ziy d r := by
 rw [Zhs, Yab (by decide), Yab (by decide)]
theorem Zakv : Zcv [92] = (0, 0) := by
 rw [Zhs, Yab (by decide), Yab (by decide)]
theorem Zala {d : UInt8} (r : List UInt8) (h : d = 34 ∨ d = 92) : Ziy d r = (d, 2) := by unfold Ziy; rw [Yan h]
theorem Zauw {d : UInt8} (r : List UInt8) (h : ¬ (d = 34 ∨ d = 92)) (hx : d ≠ 120) : Ziy d r = (0, 0) := by unfold Ziy; rw [Yab h, Yan hx]
theorem Zarz {r : List UInt8} (h : r.length < 2) : Ziy 120 r = (0, 0) := by
 unfold Ziy;rw [Yab (by decide), Yab (by decide)]
 rcases r with _ | ⟨x, _ | ⟨y, r⟩⟩
 · rfl
 · rfl
 · simp at h; omega
theorem Zaxe (x y : UInt8) (r : List UInt8) : Ziy 120 (x :: y :: r) = if indexByte hexL x < 0 ∨ indexByte hexL y < 0 then (0, 0) else (UInt8.ofNat ((indexByte hexL x).toNat * 16 + (indexByte hexL y).toNat), 4) := by
 unfold Ziy;rw [Yab (by decide), Yab (by decide)]
def Zamc (r : Option (List UInt8)) : Value := match r with | none => .tuple #[.string ⟨#[]⟩, .bool false] | some l => .tuple #[.string ⟨l.toArray⟩, .bool true]
theorem Znz (f : Nat) (c : UInt8) (l : List UInt8) : Zes (f + 1) (c :: l) = if (Zcv (c :: l)).2 = 0 then none else (Zes f ((c :: l).drop (Zcv (c :: l)).2)).map ((Zcv (c :: l)).1 :: ·) := rfl
theorem Zjr (f : Nat) : Zes f [] = some [] := by cases f <;> rfl
end Lx
namespace Go.Proofs.Zq
open Tryz
open Go Go.RowKit Go.Sort Lx
theorem Zog {s : ByteArray} {k : Nat} (h : k < s.size) : ∃ r, s.data.toList.drop k = s[k] :: r ∧ r = s.data.toList.drop (k + 1) := ⟨_, drop_at h, rfl⟩
theorem Zaxm {a b : Int} (ha : 0 ≤ a) (ha2 : a < 16) (hb : 0 ≤ b) (hb2 : b < 16) : bits .or .i64 (a * 16) b % 256 = ((UInt8.ofNat (a.toNat * 16 + b.toNat)).toNat : Int) := by
 obtain ⟨n, rfl⟩ := Yca ha;obtain ⟨m, rfl⟩ := Yca hb;have : ∀ x y : Fin 16, bits .or .i64 ((x.val : Int) * 16) (y.val : Int) % 256 = ((UInt8.ofNat (x.val * 16 + y.val)).toNat : Int) := by decide +kernel
 exact this ⟨n, by omega⟩ ⟨m, by omega⟩
def Zanx (r : UInt8 × Nat) : Value := .tuple #[.int .u8 (r.1.toNat : Int), .int .i64 (r.2 : Int)]
theorem Zxp {n k : Nat} (h : n = k) : ((n : Int) == (k : Int)) = true := by rw [h]; exact beq_self_eq_true _
theorem Zsk {n k : Nat} (h : n ≠ k) : ((n : Int) == (k : Int)) = false := by rw [Yak]; omega
theorem Zajm (s : ByteArray) (w : World) (hs : s.size ≤ 1000000000) (h0 : 0 < s.size) :
 Calls prog 200 #[.string s] w fun e w' => e = .returned (Zanx (Zcv s.data.toList)) ∧ Below w.heap.size w w' := by
 obtain ⟨l, hl, hl1⟩ := Zog h0;rw [Yei] at hl;have hc256 : (s[0].toNat : Int) < 256 := by have := s[0].toNat_lt; omega
 by_cases h1 : s[0].toNat = 34
 · have HX : Hid (Zcv s.data.toList = (0, 0)) := by show _ = _; rw [hl]; exact Zlx _ _ (.inl h1)
   have g1 : ((s[0].toNat : Int) == 34) = true := Zxp h1;clear hl hl1 h1;go_enter func200, ntmps200;go_wp2;go_ret2;exact ⟨by rw [HX.out]; rfl, Yac _ _⟩
 · have g1 : ((s[0].toNat : Int) == 34) = false := Zsk h1;by_cases h2 : s[0].toNat < 32
   · have HX : Hid (Zcv s.data.toList = (0, 0)) := by show _ = _; rw [hl]; exact Zlx _ _ (.inr (.inl h2))
     have g2 : (s[0].toNat : Int) < 32 := by omega
     clear hl hl1 h1 h2;go_enter func200, ntmps200;go_wp2;go_ret2;exact ⟨by rw [HX.out]; rfl, Yac _ _⟩
   · have g2 : ¬ (s[0].toNat : Int) < 32 := by omega
     by_cases h3 : 126 < s[0].toNat
     · have HX : Hid (Zcv s.data.toList = (0, 0)) := by show _ = _; rw [hl]; exact Zlx _ _ (.inr (.inr h3))
       have g3 : 126 < (s[0].toNat : Int) := by omega
       clear hl hl1 h1 h2 h3;go_enter func200, ntmps200;go_wp2;go_ret2;exact ⟨by rw [HX.out]; rfl, Yac _ _⟩
     · have g3 : ¬ 126 < (s[0].toNat : Int) := by omega
       by_cases h4 : s[0].toNat = 92
       · have g4 : ((s[0].toNat : Int) != 92) = false := by rw [bne_eq_false_iff_eq]; omega
         have hce : s[0] = 92 := Ybz.1 h4;rw [hce] at hl;clear hce h1 h2 h3 h4;by_cases h5 : s.size < 2
         · have HX : Hid (Zcv s.data.toList = (0, 0)) := by
            show _ = _;have e : l = [] := by rw [hl1]; exact Ybd (by rw [Zat]; omega)
            rw [hl, e, Zakv]
           have g5 : (s.size : Int) < 2 := by omega
           clear hl hl1 h5;go_enter func200, ntmps200;go_wp2;go_ret2;exact ⟨by rw [HX.out]; rfl, Yac _ _⟩
         · have g5 : ¬ (s.size : Int) < 2 := by omega
           have hb1 : 1 < s.size := by omega
           obtain ⟨r, hr, hr1⟩ := Zog hb1;rw [← hl1] at hr;rw [hr] at hl;have hd256 : (s[1].toNat : Int) < 256 := by have := s[1].toNat_lt; omega
           clear hl1 hr;by_cases h6 : s[1].toNat = 34
           · have HX : Hid (Zcv s.data.toList = (s[1], 2)) := by show _ = _; rw [hl, Zju]; exact Zala r (.inl (Ybz.1 h6))
             have g6 : ((s[1].toNat : Int) == 34) = true := Zxp h6;clear hl hr1 h5 h6;go_enter func200, ntmps200;go_wp2;go_ret2;exact ⟨by rw [HX.out]; rfl, Yac _ _⟩
           · have g6 : ((s[1].toNat : Int) == 34) = false := Zsk h6;by_cases h7 : s[1].toNat = 92
             · have HX : Hid (Zcv s.data.toList = (s[1], 2)) := by show _ = _; rw [hl, Zju]; exact Zala r (.inr (Ybz.1 h7))
               have g7 : ((s[1].toNat : Int) == 92) = true := Zxp h7;clear hl hr1 h5 h6 h7;go_enter func200, ntmps200;go_wp2;go_ret2;exact ⟨by rw [HX.out]; rfl, Yac _ _⟩
             · have g7 : ((s[1].toNat : Int) == 92) = false := Zsk h7;have hno : ¬ (s[1] = 34 ∨ s[1] = 92) := by
                rintro (h | h)
                · exact h6 (by rw [h]; rfl)
                · exact h7 (by rw [h]; rfl)
               by_cases h8 : s[1].toNat = 120
               · have g8 : ((s[1].toNat : Int) != 120) = false := by rw [bne_eq_false_iff_eq]; omega
                 have hx : s[1] = 120 := Ybz.1 h8;rw [hx] at hl;by_cases h9 : s.size < 4
                 · have HX : Hid (Zcv s.data.toList = (0, 0)) := by
                    show _ = _;rw [hl, Zju];exact Zarz (by rw [hr1, Yam, Zat]; omega)
                   have g9 : (s.size : Int) < 4 := by omega
                   clear hl hr1 h5 h6 h7 h8 h9 hno hx;go_enter func200, ntmps200;go_wp2;go_ret2;exact ⟨by rw [HX.out]; rfl, Yac _ _⟩
                 · have g9 : ¬ (s.size : Int) < 4 := by omega
                   have hb2 : 2 < s.size := by omega
                   have hb3 : 3 < s.size := by omega
                   obtain ⟨r2, hr2, hr21⟩ := Zog hb2;obtain ⟨r3, hr3, -⟩ := Zog hb3;have hre : r = s[2] :: s[3] :: r3 := by rw [hr1, hr2, hr21, hr3]
                   have HX : Hid (Zcv s.data.toList = if Lib.indexByte hexL s[2] < 0 ∨ Lib.indexByte hexL s[3] < 0 then (0, 0) else (UInt8.ofNat ((Lib.indexByte hexL s[2]).toNat * 16 + (Lib.indexByte hexL s[3]).toNat), 4)) := by
                    show _ = _;rw [hl, Zju, hre, Zaxe]
                   have hx2 := Zatc s[2];have hx3 := Zatc s[3];have hI : ∀ (c : UInt8) W, Calls prog 163 #[.string ⟨#[48, 49, 50, 51, 52, 53, 54, 55, 56, 57, 97, 98, 99, 100, 101, 102]⟩, .int .u8 (c.toNat : Int)] W fun e w' => e = .returned (.int .i64 (Lib.indexByte hexL c)) ∧ w' = W := fun c W => by
                    have := Tryz.strings_IndexByte ⟨#[48, 49, 50, 51, 52, 53, 54, 55, 56, 57, 97, 98, 99, 100, 101, 102]⟩ (c.toNat : Int) W;have e : ((c.toNat : Int).toNat).toUInt8 = c := by simp
                    rw [e] at this;exact this
                   have HI := Zhd hI;clear hl hr1 h5 h6 h7 h8 h9 hno hx hre hr2 hr21 hr3 hI;have hb2i : (2 : Int) < (s.size : Int) := by omega
                   have hb3i : (3 : Int) < (s.size : Int) := by omega
                   go_enter func200, ntmps200;go_wp2_with fail;go_quiet ((go_at_call 163; exact Calls.quiet_of_same (HI.out _ _)));generalize Lib.indexByte hexL s[2] = a at *;generalize Lib.indexByte hexL s[3] = b at *;by_cases ha : a < 0
                   · rw [Yan (.inl ha)] at HX;go_wp2;go_ret2;exact ⟨by rw [HX.out]; rfl, below_drewN (Yac _ _) _⟩
                   · by_cases hb : b < 0
                     · rw [Yan (.inr hb)] at HX;go_wp2;go_ret2;exact ⟨by rw [HX.out]; rfl, below_drewN (Yac _ _) _⟩
                     · rw [Yab (by omega)] at HX
                       go_wp2;go_ret2;exact ⟨by rw [HX.out, Zaxm (by omega) (by omega) (by omega) (by omega)]; rfl, below_drewN (Yac _ _) _⟩
               · have HX : Hid (Zcv s.data.toList = (0, 0)) := by
                  show _ = _;rw [hl, Zju];exact Zauw r hno fun h => h8 (by rw [h]; rfl)
                 have g8 : ((s[1].toNat : Int) != 120) = true := by rw [bne_iff_ne]; omega
                 clear hl hr1 h5 h6 h7 h8 hno;go_enter func200, ntmps200;go_wp2;go_ret2;exact ⟨by rw [HX.out]; rfl, Yac _ _⟩
       · have HX : Hid (Zcv s.data.toList = (s[0], 1)) := by show _ = _; rw [hl]; exact Zabf _ _ h1 h2 h3 h4
         have g4 : ((s[0].toNat : Int) != 92) = true := by rw [bne_iff_ne]; omega
         clear hl hl1 h1 h2 h3 h4;go_enter func200, ntmps200;go_wp2;go_ret2;exact ⟨by rw [HX.out]; rfl, Yac _ _⟩
theorem Zail {B b : Nat} {bs : List Value} {w w' : World} (h : Lib.IsBuilder 217 5 B b bs w) (hb : Below w.heap.size w w') : Lib.IsBuilder 217 5 B b bs w' := by
 have key : ∀ p, Lib.BuilderAt 217 5 B b p bs w → Lib.BuilderAt 217 5 B b p bs w' := fun p ⟨h1, v, h2, h3, h4⟩ => by
  refine ⟨h1, v, ?_, Zah h3 hb, h4⟩;have hlt : b < w.heap.size := by
   rcases Ybp b w.heap.size with h' | h'
   · exact h'
   · rw [Ydy h'] at h2; cases h2
  rw [← h2];exact hb.block b hlt
 exact h.imp (key _) (key _)
theorem Zaur (w : World) : Lib.IsBuilder 217 5 w.heap.size w.heap.size [] (w.alloc (.cells #[.pointer none, .slice none 0 0] 217)) := by
 refine .inl ⟨Yaf _, .slice none 0 0, ?_, World.ownsRow_nil _ _ _ _, by simp [Value.ownBlock]⟩
 exact heap_alloc_new w _
theorem Zanq (s : ByteArray) (w : World) (hs : s.size ≤ 1000000) :
 Calls prog 166 #[.string s] w fun e w' => e = .returned (Zamc (Zes s.size s.data.toList)) ∧ Below w.heap.size w w' := by
 obtain ⟨R, hR⟩ : ∃ R, Zes s.size s.data.toList = R := ⟨_, rfl⟩;rw [hR];have HR0 : Hid (R = (Zes s.size s.data.toList).map ([] ++ ·)) := by show _ = _; rw [hR]; cases R <;> rfl
 clear hR;go_enter func166, ntmps166;go_wp2;have hB0 := Zhd (Zaur w);have hb0 := Zhd ((Yac w.heap.size w).alloc (Yaf _) (.cells #[.pointer none, .slice none 0 0] 217));change Code.wp _ _ _ _ (w.alloc (.cells #[.pointer none, .slice none 0 0] 217));generalize w.alloc (.cells #[.pointer none, .slice none 0 0] 217) = w1 at *;obtain ⟨B, hB⟩ : ∃ B, w.heap.size = B := ⟨_, rfl⟩;have HBs := Zhd hB;rw [hB] at hB0 hb0 ⊢;have HLE : Hid (∀ W, Below B w W → B ≤ W.heap.size) := fun W h => by have := h.size; omega
 clear hB;go_loopw [0] (fun v wr => ∃ (t : ByteArray) (acc : List UInt8) (f : Nat), v = .string t ∧ t.size ≤ f ∧ acc.length + t.size ≤ s.size ∧ Hid (R = (Zes f t.data.toList).map (acc ++ ·)) ∧ Hid (Lib.IsBuilder 217 5 B B (Lib.byteCells acc) wr) ∧ Hid (Below B w wr)) (fun v _ => match v with | .string t => t.size | _ => 0)
 case atStart => exact ⟨s, [], s.size, rfl, Yaf _, by simp, HR0, hB0, hb0⟩
 case round =>
  clear hB0 hb0 HR0;obtain ⟨t, acc, f, rfl, hf, hacc, HR, HB, Hb⟩ := hrel;by_cases h0 : 0 < t.size
  · obtain ⟨r, hr, -⟩ := Zog h0;rw [Yei] at hr;have hne : t.toList.isEmpty = false := Zfr h0;have hne2 : ¬ t.toList = [] := by simpa using hne
    have hne3 : (t.toList == []) = false := by rw [Yak]; exact hne2
    obtain ⟨f, rfl⟩ : ∃ g, f = g + 1 := ⟨f - 1, by omega⟩
    have HP := Zhd (fun W => Zajm t W (by omega) h0)
    have hst := HR.out;rw [hr, Znz] at hst;have hle := Zaod t[0] r;rw [← hr] at hst hle;rw [Zat] at hle;generalize Zcv t.data.toList = p at *;obtain ⟨c, n⟩ := p;simp only at hst hle;by_cases hn : n = 0
    · subst hn;rw [Yan rfl] at hst;have HS := Zhd hst;clear hst HR hr;go_wp2_with fail;refine (HP.out wr).mono ?_;unfold Zanx;rintro e w2 ⟨rfl, hb2⟩;have HB2 := Zhd (Hb.out.trans (hb2.mono (HLE.out _ Hb.out)));clear hb2;go_wp2;go_ret2;exact ⟨by rw [HS.out]; rfl, by rw [HBs.out]; exact HB2.out⟩
    · rw [Yab hn] at hst;have hnn : ((n : Int) == 0) = false := by rw [Yak]; omega
      have hni : (n : Int) ≤ (t.size : Int) := by omega
      have hn0 : (0 : Int) ≤ (n : Int) := by omega
      have HS : Hid (R = (Zes f (t.data.toList.drop n)).map ((acc ++ [c]) ++ ·)) := by
       show _ = _;rw [hst];cases Zes f (t.data.toList.drop n) <;> simp
      clear hst HR hr;go_wp2_with fail;refine (HP.out wr).mono ?_;unfold Zanx;rintro e w2 ⟨rfl, hb2⟩;have HB2 := Zhd (Hb.out.trans (hb2.mono (HLE.out _ Hb.out)));have HBd : Hid (Lib.IsBuilder 217 5 B B (Lib.byteCells acc) w2) := Zail HB.out hb2;clear hb2;have hal : (Lib.byteCells acc).length + 1 ≤ 1000000000 := by rw [Lib.byteCells_length]; omega
      go_wp2_with fail;refine (Zva B B (Lib.byteCells acc) (c.toNat : Int) _ HBd.out hal (HLE.out _ HB2.out)).mono ?_;rintro e w3 ⟨rfl, hbd3, hb3⟩;have HB3 := Zhd (HB2.out.trans hb3);have HBd3 : Hid (Lib.IsBuilder 217 5 B B (Lib.byteCells (acc ++ [c])) w3) := .inr (by rw [Lib.byteCells_append]; exact hbd3)
      clear hbd3 hb3;go_wp2_with fail;go_roundw
      case rel => exact ⟨t.extract n t.size, acc ++ [c], f, rfl, by rw [Zft n t.size (Yaf _)]; omega, by rw [Zft n t.size (Yaf _), Yaj, Yby]; omega, by show _ = _; rw [Zmq]; exact HS.out, HBd3, HB3⟩
      case measure => show (t.extract n t.size).size < t.size; rw [Zft n t.size (Yaf _)]; omega
  · have ht : t = ⟨#[]⟩ := by
     have : t.data.toList = [] := Yaq (by rw [Zat]; omega)
     exact ByteArray.ext (Ydz.1 this)
    subst ht;have HS : Hid (R = some acc) := by show _ = _; rw [HR.out, show (⟨#[]⟩ : ByteArray).data.toList = [] from rfl, Zjr]; simp
    clear HR;go_wp2_with fail;refine (Tryz.Builder_String_any B B acc _ HB.out (HLE.out _ Hb.out)).mono ?_;rintro e w2 ⟨rfl, hb2⟩;go_wp2;go_ret2;exact ⟨by rw [HS.out]; rfl, by rw [HBs.out]; exact Hb.out.trans hb2⟩
end Go.Proofs.Zq
