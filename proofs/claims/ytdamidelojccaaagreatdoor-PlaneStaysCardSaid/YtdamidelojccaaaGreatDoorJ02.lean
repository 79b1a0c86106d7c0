import Derived.Laws.BitsAllLaws
import Derived.WalkSpells
import Derived.WalkLawsBesides
import Derived.BigQuiet
import Derived.Deep.QuietTactic
import Derived.Lib.Builder
import Derived.Lib.Walk
import Derived.Laws.Externs
import Derived.Lib.SplitLaws
import Derived.Test.YtdamidelojccaaaGreatDoorJ01
set_option maxHeartbeats 2000000
set_option maxRecDepth 100000
namespace Adr
open Go Go.RowKit
theorem Zhk (a : Nat) (ha : a < 18446744073709551616) : (BitVec.ofInt 64 (a : Int)).toNat = a := by
 rw [BitVec.ofInt_natCast, BitVec.toNat_ofNat]; exact Nat.mod_eq_of_lt (by omega)
theorem Zwe (a : Nat) (ha : a < 9223372036854775808) : IntKind.i64.wrap (a : Int) = a := IntWalk.i64_in _ (by omega)
theorem and_nat (a b : Nat) (ha : a < 9223372036854775808) (hb : b < 9223372036854775808) : bits .and .i64 (a : Int) (b : Int) = ((a &&& b : Nat) : Int) := by
 have hx : a &&& b ≤ a := Nat.and_le_left;show IntKind.i64.wrap ((BitVec.ofInt 64 (a : Int) &&& BitVec.ofInt 64 (b : Int)).toNat : Int) = _;rw [BitVec.toNat_and, Zhk a (by omega), Zhk b (by omega), Zwe _ (by omega)]
theorem Zafu (a b : Nat) (ha : a < 9223372036854775808) (hb : b < 9223372036854775808) : bits .andNot .i64 (a : Int) (b : Int) = ((a &&& (18446744073709551615 - b) : Nat) : Int) := by
 have hx : a &&& (18446744073709551615 - b) ≤ a := Nat.and_le_left;show IntKind.i64.wrap ((BitVec.ofInt 64 (a : Int) &&& ~~~BitVec.ofInt 64 (b : Int)).toNat : Int) = _;rw [BitVec.toNat_and, BitVec.toNat_not, Zhk a (by omega), Zhk b (by omega)]
 have e : 2 ^ 64 - 1 - b = 18446744073709551615 - b := by omega
 rw [e, Zwe _ (by omega)]
def restV (n : Int) : Int := ((2 ^ (32 - n.toNat) - 1 : Nat) : Int)
theorem Zacy (k : Nat) (h : k ≤ 32) : 1 ≤ 2 ^ k ∧ 2 ^ k ≤ 4294967296 := by
 refine ⟨Nat.one_le_pow _ _ (by decide), ?_⟩
 have := Yeu (n := 2) (by decide) h
 simpa using this
theorem rest_val (n : Int) (h0 : 0 ≤ n) (h : n ≤ 32) : wrap64 (wrap64 (2 ^ (32 - n).toNat) - 1) = restV n := by
 obtain ⟨k, rfl⟩ := Yca h0;have hp := Zacy (32 - k) (by omega)
 have e1 : (32 - (k : Int)).toNat = 32 - k := by omega
 have e2 : ((2 : Int) ^ (32 - k)) = ((2 ^ (32 - k) : Nat) : Int) := by simp
 rw [e1, e2];unfold restV;rw [Ybq];generalize 2 ^ (32 - k) = m at *;have e3 : wrap64 (m : Int) = m := IntWalk.wrap64_in _ (by omega)
 rw [e3, IntWalk.wrap64_in _ (by omega)]
 omega
theorem Zaow (n b : Int) (h0 : 0 ≤ n) (h1 : n < 4294967296) (hb0 : 0 ≤ b) (hb : b ≤ 32) : bits .and .i64 n (restV b) = ((n.toNat % 2 ^ (32 - b.toNat) : Nat) : Int) := by
 obtain ⟨a, rfl⟩ := Yca h0;have hp := Zacy (32 - b.toNat) (by omega)
 unfold restV;rw [and_nat a _ (by omega) (by omega), Yeg, Ybq]
theorem Zabv (n b : Int) (h0 : 0 ≤ n) (h1 : n < 4294967296) (hb0 : 0 ≤ b) (hb : b ≤ 32) : bits .andNot .i64 n (restV b) = ((n.toNat / 2 ^ (32 - b.toNat) * 2 ^ (32 - b.toNat) : Nat) : Int) := by
 obtain ⟨a, rfl⟩ := Yca h0;have hp := Zacy (32 - b.toNat) (by omega)
 have hk : 32 - b.toNat ≤ 64 := by omega
 unfold restV;rw [Zafu a _ (by omega) (by omega), Ybq]
 have e : 18446744073709551615 - (2 ^ (32 - b.toNat) - 1) = 2 ^ 64 - 2 ^ (32 - b.toNat) := by omega
 rw [e, nat_midmask 64 _ a hk, Nat.mod_eq_of_lt (by omega)]
theorem right_bits (n b : Int) (h0 : 0 ≤ n) (h1 : n < 4294967296) (hb0 : 0 ≤ b) (hb : b ≤ 32) : (bits .and .i64 n (restV b) == 0) = right n b := by
 rw [Zaow n b h0 h1 hb0 hb, Ycj];unfold right;simp only [beq_iff_eq, Yar, Yao];omega
theorem right_not {n b : Int} (h : ¬ (0 ≤ n ∧ n < 4294967296 ∧ 0 ≤ b ∧ b ≤ 32)) : right n b = false := by
 unfold right;rw [Ycy];simp only [ne_eq, Yar, Yao];omega
theorem right_bd {n b : Int} (h : right n b = true) : 0 ≤ n ∧ n < 4294967296 ∧ 0 ≤ b ∧ b ≤ 32 ∧ n.toNat % 2 ^ (32 - b.toNat) = 0 := by
 unfold right at h;simp only [Yar, Yao] at h;omega
theorem in_bits (n b ip : Int) (hr : right n b = true) (h0 : 0 ≤ ip) (h1 : ip < 4294967296) : (bits .andNot .i64 ip (restV b) == n) = isIn n b ip := by
 obtain ⟨n0, n1, b0, b1, hm⟩ := right_bd hr;rw [Zabv ip b h0 h1 b0 b1, Ycj];unfold isIn;rw [hr];simp only [beq_iff_eq, Yar, Yao, Ydr];obtain ⟨a, rfl⟩ := Yca n0;rw [Ybq] at hm ⊢;have hp := Zacy (32 - b.toNat) (by omega)
 have hd := Nat.div_add_mod a (2 ^ (32 - b.toNat));generalize 2 ^ (32 - b.toNat) = m at *;rw [hm, Yef] at hd;constructor
 · intro h;refine ⟨⟨h0, h1⟩, ?_⟩;have : ip.toNat / m * m = a := by omega
   rw [← this, Nat.mul_div_cancel _ (by omega)]
 · rintro ⟨_, h⟩;rw [h, Yen]; omega
def pw (n : Int) : Int := ((2 ^ n.toNat : Nat) : Int)
theorem isIn_not {n b ip : Int} (h : ¬ (right n b = true ∧ 0 ≤ ip ∧ ip < 4294967296)) : isIn n b ip = false := by
 unfold isIn;rw [Ycy];simp only [ne_eq, Yar, Yao];rintro ⟨⟨⟨a, c⟩, d⟩, _⟩;exact h ⟨a, c, d⟩
open Go.Lib
def hexd (k : Nat) : UInt8 := UInt8.ofNat (if k < 10 then 48 + k else 87 + k)
def hv (c : UInt8) : Int := if 48 ≤ c.toNat ∧ c.toNat ≤ 57 then (c.toNat : Int) - 48 else if 97 ≤ c.toNat ∧ c.toNat ≤ 102 then (c.toNat : Int) - 97 + 10 else -1
def mac2 (k : Nat) : List UInt8 := [hexd (k / 16), hexd (k % 16)]
def macText (n : Nat) : List UInt8 := glue 58 [mac2 (n / 1099511627776 % 256), mac2 (n / 4294967296 % 256), mac2 (n / 16777216 % 256), mac2 (n / 65536 % 256), mac2 (n / 256 % 256), mac2 (n % 256)]
def Zgj (n : Int) (w : List UInt8) : Int := match w with
 | [x, y] => if n < 0 ∨ hv x < 0 ∨ hv y < 0 then -1 else 256 * n + 16 * hv x + hv y
 | _ => -1
def mac (l : List UInt8) : Int := match parts 58 l with
 | [a, b, c, d, e, f] => Zgj (Zgj (Zgj (Zgj (Zgj (Zgj 0 a) b) c) d) e) f
 | _ => -1
theorem Zpm {k : Nat} (h : k < 16) : (hexd k).toNat = if k < 10 then 48 + k else 87 + k := by
 unfold hexd; split <;> simp <;> omega
theorem Zamk {k : Nat} (h : k < 16) : hv (hexd k) = k := by
 unfold hv;rw [Zpm h];split
 · rw [Yan (by omega)]; omega
 · rw [Yab (by omega), Yan (by omega)]; omega
theorem Zalo {c : UInt8} (h : 0 ≤ hv c) : hv c < 16 ∧ hexd (hv c).toNat = c := by
 unfold hv at h ⊢;split
 · rename_i h1;refine ⟨by omega, Ybz.1 ?_⟩
   rw [Zpm (by omega), Yan (by omega)]; omega
 · rename_i h1;rw [Yab h1] at h;split
   · rename_i h2;refine ⟨by omega, Ybz.1 ?_⟩
     rw [Zpm (by omega), Yab (by omega)]; omega
   · rename_i h2; rw [Yab h2] at h; omega
theorem Zxm {k : Nat} (h : k < 16) : (58 : UInt8) ≠ hexd k := by
 intro e;have := congrArg UInt8.toNat e;rw [Zpm h] at this;simp at this;split at this <;> omega
theorem Zwr {k : Nat} (h : k < 256) : (58 : UInt8) ∉ mac2 k := by
 unfold mac2;simp only [Yaw, Ybv, or_false, not_or];exact ⟨Zxm (by omega), Zxm (by omega)⟩
theorem Zfx (n k : Nat) (h : k < 256) : Zgj n (mac2 k) = ((256 * n + k : Nat) : Int) := by
 unfold mac2 Zgj;simp only;rw [Zamk (show k / 16 < 16 by omega), Zamk (show k % 16 < 16 by omega), Yab (by omega)]
 omega
theorem Zur (n : Nat) : parts 58 (macText n) = [mac2 (n / 1099511627776 % 256), mac2 (n / 4294967296 % 256), mac2 (n / 16777216 % 256), mac2 (n / 65536 % 256), mac2 (n / 256 % 256), mac2 (n % 256)] := by
 have f : ∀ k, (58 : UInt8) ∉ mac2 (k % 256) := fun k => Zwr (Nat.mod_lt _ (by decide))
 unfold macText;rw [glue_more, glue_more, glue_more, glue_more, glue_more, Zvm, Zdj _ _ _ (f _), Zdj _ _ _ (f _), Zdj _ _ _ (f _), Zdj _ _ _ (f _), Zdj _ _ _ (f _), Zkz _ _ (f _)]
theorem Zasg (n : Nat) (h : n < 281474976710656) : mac (macText n) = n := by
 unfold mac;rw [Zur];simp only;rw [show (0 : Int) = ((0 : Nat) : Int) from rfl, Zfx _ _ (by omega), Zfx _ _ (by omega), Zfx _ _ (by omega), Zfx _ _ (by omega), Zfx _ _ (by omega), Zfx _ _ (by omega)]
 omega
theorem Zla {n : Int} {w : List UInt8} (h : 0 ≤ Zgj n w) : 0 ≤ n ∧ ∃ k : Nat, k < 256 ∧ w = mac2 k ∧ Zgj n w = 256 * n + k := by
 unfold Zgj at h ⊢;split at h
 · rename_i x y;split at h
   · omega
   · rename_i hn;have hx := Zalo (c := x) (by omega)
     have hy := Zalo (c := y) (by omega)
     refine ⟨by omega, (16 * hv x + hv y).toNat, by omega, ?_, ?_⟩
     · unfold mac2;rw [show (16 * hv x + hv y).toNat / 16 = (hv x).toNat by omega, show (16 * hv x + hv y).toNat % 16 = (hv y).toNat by omega, hx.2, hy.2]
     · rw [Yab hn]; omega
 · omega
theorem Zxy (l : List UInt8) : mac l = -1 ∨ ∃ a b c d e f, parts 58 l = [a, b, c, d, e, f] ∧ mac l = Zgj (Zgj (Zgj (Zgj (Zgj (Zgj 0 a) b) c) d) e) f := by
 unfold mac;split
 · rename_i a b c d e f h; right; exact ⟨a, b, c, d, e, f, h, rfl⟩
 · left; rfl
theorem Zapn (l : List UInt8) (h : 0 ≤ mac l) : mac l < 281474976710656 ∧ macText (mac l).toNat = l := by
 rcases Zxy l with e | ⟨a, b, c, d, e', f, hp, e⟩
 · omega
 · rw [e] at h ⊢;obtain ⟨h5, kf, f1, ef, gf⟩ := Zla h;obtain ⟨h4, ke, e1, ee, ge⟩ := Zla h5;obtain ⟨h3, kd, d1, ed, gd⟩ := Zla h4;obtain ⟨h2, kc, c1, ec, gc⟩ := Zla h3;obtain ⟨h1, kb, b1, eb, gb⟩ := Zla h2;obtain ⟨_, ka, a1, ea, ga⟩ := Zla h1;rw [gf, ge, gd, gc, gb, ga];refine ⟨by omega, ?_⟩
   unfold macText;generalize hN : (256 * (256 * (256 * (256 * (256 * (256 * (0 : Int) + ka) + kb) + kc) + kd) + ke) + kf).toNat = N;rw [show N / 1099511627776 % 256 = ka by omega, show N / 4294967296 % 256 = kb by omega, show N / 16777216 % 256 = kc by omega, show N / 65536 % 256 = kd by omega, show N / 256 % 256 = ke by omega, show N % 256 = kf by omega, ← ea, ← eb, ← ec, ← ed, ← ee, ← ef, ← hp]
   exact Zta 58 l
theorem Zaxr (l : List UInt8) : -1 ≤ mac l := by
 rcases Zxy l with h | ⟨a, b, c, d, e, f, _, h⟩
 · omega
 · rw [h];generalize Zgj (Zgj (Zgj (Zgj (Zgj 0 a) b) c) d) e = n;unfold Zgj;split
   · split <;> omega
   · omega
def dig36 (c : UInt8) : Nat := if 48 ≤ c.toNat ∧ c.toNat ≤ 57 then c.toNat - 48 else if 97 ≤ (c ||| 32).toNat ∧ (c ||| 32).toNat ≤ 122 then (c ||| 32).toNat - 97 + 10 else 255
def parse16 (acc : Nat) : List UInt8 → Option (Option Nat)
 | [] => some (some acc)
 | c :: r => if 16 ≤ dig36 c then none else if 281474976710656 ≤ acc * 16 + dig36 c then some none else parse16 (acc * 16 + dig36 c) r
def parseMac (l : List UInt8) : Option (Option Nat) := if l = [] then none else parse16 0 l
def macP (l : List UInt8) : Int := match parseMac (replaceAll l [58] []) with
 | some (some n) => if macText n = l then (n : Int) else -1
 | _ => -1
theorem Ztj : ∀ (l : List UInt8) (acc u : Nat), acc < 281474976710656 → parse16 acc l = some (some u) → u < 281474976710656
 | [], acc, u, ha, h => by
   rw [parse16] at h;injection h with h
   injection h with h
   omega
 | c :: r, acc, u, ha, h => by
   rw [parse16] at h;by_cases h1 : 16 ≤ dig36 c
   · rw [Yan h1] at h; cases h
   · rw [Yab h1] at h;by_cases h2 : 281474976710656 ≤ acc * 16 + dig36 c
     · rw [Yan h2] at h; cases h
     · rw [Yab h2] at h;exact Ztj r _ u (by omega) h
theorem parseMac_lt {l : List UInt8} {u : Nat} (h : parseMac l = some (some u)) : u < 281474976710656 := by
 unfold parseMac at h;split at h
 · cases h
 · exact Ztj l 0 u (by decide) h
theorem or32 : ∀ k : Fin 16, dig36 (hexd k.val) = k.val := by decide +kernel
theorem Zadg {k : Nat} (h : k < 16) : dig36 (hexd k) = k := or32 ⟨k, h⟩
theorem Zhp (acc k : Nat) (r : List UInt8) (hk : k < 256) (ha : acc * 256 + k < 281474976710656) : parse16 acc (mac2 k ++ r) = parse16 (acc * 256 + k) r := by
 unfold mac2;rw [Ych, Ych, List.nil_append, parse16, Zadg (show k / 16 < 16 by omega), Yab (by omega), Yab (by omega), parse16, Zadg (show k % 16 < 16 by omega), Yab (by omega), Yab (by omega)]
 congr 1; omega
theorem Zaas (L : List (List UInt8)) (h : ∀ p ∈ L, (58 : UInt8) ∉ p) : (glue 58 L).filter (· != 58) = L.flatten := by
 induction L with
 | nil => rfl
 | cons a r ih =>
   cases r with
   | nil => rw [Zvm, Ziq 58 a (h a (by simp))]; simp
   | cons b r =>
     rw [glue_more, Yco, Ziq 58 a (h a (by simp)), List.filter_cons_of_neg (by simp), ih (fun p hp => h p (by simp only [Yaw] at hp ⊢; exact Or.inr hp))]
     simp
theorem Zue (n : Nat) (h : n < 281474976710656) : parseMac (replaceAll (macText n) [58] []) = some (some n) := by
 have f : ∀ k, (58 : UInt8) ∉ mac2 (k % 256) := fun k => Zwr (Nat.mod_lt _ (by decide))
 rw [replace_filter];unfold macText;rw [Zaas _ (by
  intro p hp;simp only [Yaw, Ybv, or_false] at hp;rcases hp with rfl | rfl | rfl | rfl | rfl | rfl <;> exact f _)]
 simp only [List.flatten_cons, List.flatten_nil];unfold parseMac;rw [Yab (by simp [mac2]), Zhp _ _ _ (by omega) (by omega), Zhp _ _ _ (by omega) (by omega), Zhp _ _ _ (by omega) (by omega), Zhp _ _ _ (by omega) (by omega), Zhp _ _ _ (by omega) (by omega), Zhp _ _ _ (by omega) (by omega), parse16]
 congr 2; omega
theorem macP_eq (l : List UInt8) : macP l = mac l := by
 unfold macP;by_cases h : 0 ≤ mac l
 · obtain ⟨h1, h2⟩ := Zapn l h;have := Zue (mac l).toNat (by omega)
   rw [h2] at this;rw [this];simp only;rw [Yan h2]; omega
 · have hm : mac l = -1 := by have := Zaxr l; omega
   rw [hm];split
   · rename_i n hn;by_cases e : macText n = l
     · exfalso;have := Zasg n (parseMac_lt hn);rw [e] at this; omega
     · rw [Yab e]
   · rfl
end Adr
namespace Go.Proofs.Zq
open Tryz
open Go.RowKit
theorem Zcg {k : IntKind} {a b : Int} (h : a = b) : Ending.returned (.int k a) = .returned (.int k b) := by rw [h]
theorem Zai {a b : Bool} (h : a = b) : Ending.returned (.bool a) = .returned (.bool b) := by rw [h]
theorem Zacr (n : Int) (w : World) (h0 : 0 ≤ n) (h : n ≤ 32) :
 Calls prog 197 #[.int .i64 n] w fun e w' => e = .returned (.int .i64 (Adr.restV n)) ∧ w = w' := by
 go_enter func197, ntmps197;go_wp2;go_ret;exact ⟨Zcg (Adr.rest_val n h0 h), rfl⟩
theorem Zhl (n b : Int) (w : World) :
 Calls prog 196 #[.int .i64 n, .int .i64 b] w fun e w' => e = .returned (.bool (Adr.right n b)) ∧ w = w' := by
 by_cases h : 0 ≤ n ∧ n < 4294967296 ∧ 0 ≤ b ∧ b ≤ 32
 · obtain ⟨h0, h1, h2, h3⟩ := h;have he := Adr.right_bits n b h0 h1 h2 h3;go_enter func196, ntmps196;go_wp2_with (go_at_call 197; refine (Zacr _ _ (by omega) (by omega)).mono ?_; rintro e w' ⟨rfl, rfl⟩)
   go_ret;exact ⟨rfl, rfl⟩
 · have he := Adr.right_not h;by_cases h0 : 0 ≤ n
   · by_cases h1 : n < 4294967296
     · by_cases h2 : 0 ≤ b
       · have h3 : 32 < b := by omega
         clear h;go_enter func196, ntmps196;go_wp2;go_ret;exact ⟨rfl, rfl⟩
       · have h2 : b < 0 := by omega
         clear h;go_enter func196, ntmps196;go_wp2;go_ret;exact ⟨rfl, rfl⟩
     · have h1 : 4294967296 ≤ n := by omega
       clear h;go_enter func196, ntmps196;go_wp2;go_ret;exact ⟨rfl, rfl⟩
   · have h0 : n < 0 := by omega
     clear h;go_enter func196, ntmps196;go_wp2;go_ret;exact ⟨rfl, rfl⟩
theorem Zawn (n b ip : Int) (w : World) :
 Calls prog 162 #[.int .i64 n, .int .i64 b, .int .i64 ip] w fun e w' => e = .returned (.bool (Adr.isIn n b ip)) ∧ w = w' := by
 cases hr : Adr.right n b with
 | false =>
   have He := Zhd (Adr.isIn_not (n := n) (b := b) (ip := ip) (by rw [hr]; simp))
   have Hr := Zhd hr; clear hr;go_enter func162, ntmps162;go_wp2_with (go_at_call 196; refine (Zhl _ _ _).mono ?_; rintro e w' ⟨rfl, rfl⟩; rw [Hr.out]);go_ret;exact ⟨Zai He.out.symm, rfl⟩
 | true =>
   obtain ⟨n0, n1, b0, b1, _⟩ := Adr.right_bd hr;by_cases h : 0 ≤ ip ∧ ip < 4294967296
   · obtain ⟨h0, h1⟩ := h;have He := Zhd (Adr.in_bits n b ip hr h0 h1);have Hr := Zhd hr; clear hr;go_enter func162, ntmps162;go_wp2_with (first | (go_at_call 196; refine (Zhl _ _ _).mono ?_; rintro e w' ⟨rfl, rfl⟩; rw [Hr.out]) | (go_at_call 197; refine (Zacr _ _ (by omega) (by omega)).mono ?_; rintro e w' ⟨rfl, rfl⟩))
     go_ret;exact ⟨Zai He.out, rfl⟩
   · have He := Zhd (Adr.isIn_not (n := n) (b := b) (ip := ip) (by rintro ⟨_, x, y⟩; exact h ⟨x, y⟩))
     have Hr := Zhd hr; clear hr;by_cases h0 : 0 ≤ ip
     · have h1 : 4294967296 ≤ ip := by omega
       clear h;go_enter func162, ntmps162;go_wp2_with (go_at_call 196; refine (Zhl _ _ _).mono ?_; rintro e w' ⟨rfl, rfl⟩; rw [Hr.out]);go_ret;exact ⟨Zai He.out.symm, rfl⟩
     · have h0 : ip < 0 := by omega
       clear h;go_enter func162, ntmps162;go_wp2_with (go_at_call 196; refine (Zhl _ _ _).mono ?_; rintro e w' ⟨rfl, rfl⟩; rw [Hr.out]);go_ret;exact ⟨Zai He.out.symm, rfl⟩
open Go Go.Sort Lx
theorem Zyc (l : List UInt8) (c : UInt8) : Lib.indexByte l (((c.toNat : Int)).toNat).toUInt8 = Lib.indexByte l c := by
 congr 1; simp
theorem Zaqv (c : UInt8) (w : World) : Calls prog 199 #[.int .u8 (c.toNat : Int)] w fun e w' => e = .returned (.bool (Zagn c)) ∧ w' = w := by
 have hc256 := c.toNat_lt;have HI := Tryz.strings_IndexByte ⟨#[45, 95, 46, 47, 58, 42]⟩ (c.toNat : Int) w;rw [Zyc] at HI;have HX : Hid (Zagn c = ((decide (97 ≤ c.toNat) && decide (c.toNat ≤ 122)) || (decide (65 ≤ c.toNat) && decide (c.toNat ≤ 90)) || (decide (48 ≤ c.toNat) && decide (c.toNat ≤ 57)) || decide (0 ≤ Lib.indexByte [45, 95, 46, 47, 58, 42] c))) := rfl
 have HI2 : Hid (Calls prog 163 #[.string ⟨#[45, 95, 46, 47, 58, 42]⟩, .int .u8 (c.toNat : Int)] w fun e w' => e = .returned (.int .i64 (Lib.indexByte [45, 95, 46, 47, 58, 42] c)) ∧ w' = w) := HI
 clear HI;generalize Lib.indexByte [45, 95, 46, 47, 58, 42] c = q at *;generalize c.toNat = n at *;go_enter func199, ntmps199;go_wp2_with (go_at_call 163; refine HI2.out.mono ?_; rintro e w' ⟨rfl, rfl⟩)
 all_goals
  go_ret;refine ⟨Zai ?_, rfl⟩;rw [HX.out, Ycj];simp only [Bool.or_eq_true, Yar, Yao]
  first | omega | (simp; omega)
theorem drop_at {s : ByteArray} {k : Nat} (h : k < s.size) : s.data.toList.drop k = s[k] :: s.data.toList.drop (k + 1) := Yay (by rw [Zat]; exact h)
theorem Zaax (s : ByteArray) (w : World) (hs : s.size ≤ 1000000000) : Calls prog 164 #[.string s] w fun e w' => e = .returned (.int .i64 (runB s.data.toList : Nat)) ∧ w' = w := by
 have HB := Zhd (fun c => Zaqv c w)
 go_enter func164, ntmps164;go_wp2;go_loopw [3] (fun vi wr => ∃ k : Nat, k ≤ s.size ∧ vi = .int .i64 k ∧ wr = w ∧ Hid (runB s.data.toList = k + runB (s.data.toList.drop k))) (fun vi _ => s.size - (intOf vi).toNat)
 case atStart => exact ⟨0, Yav _, rfl, rfl, by show _ = _; simp⟩
 case round =>
  obtain ⟨k, hk, rfl, rfl, HQ⟩ := hrel;by_cases hlt : k < s.size
  · have hd := drop_at hlt;have hst : Hid (runB s.data.toList = k + (if Zagn s[k] = true then runB (s.data.toList.drop (k + 1)) + 1 else 0)) := by
     show _ = _; rw [HQ.out, hd]; rfl
    have HC := Zhd (HB.out s[k]);clear HQ hd;generalize Zagn s[k] = b at *;cases b with
    | true =>
      have HN : Hid (runB s.data.toList = (k + 1) + runB (s.data.toList.drop (k + 1))) := by show _ = _; rw [hst.out, Yan rfl]; omega
      clear hst;go_wp2_with (go_at_call 199; refine HC.out.mono ?_; rintro e w' ⟨rfl, rfl⟩);go_roundw
      case rel => exact ⟨k + 1, by omega, by go_num, by simp, HN⟩
      case measure => simp [intOf]; omega
    | false =>
      have HN : Hid (runB s.data.toList = k) := by show _ = _; rw [hst.out, Yab (by decide)]; rfl
      clear hst;go_wp2_with (go_at_call 199; refine HC.out.mono ?_; rintro e w' ⟨rfl, rfl⟩);go_ret;exact ⟨by rw [HN.out]; rfl, rfl⟩
  · obtain rfl : k = s.size := by omega
    have HN : Hid (runB s.data.toList = s.size) := by show _ = _; rw [HQ.out, Ybd (by rw [Zat]; exact Yaf _)]; rfl
    clear HQ;go_wp2;go_ret;exact ⟨by rw [HN.out]; rfl, rfl⟩
theorem Zks (s : ByteArray) (l : List UInt8) : (s.toList == l) = decide (s.data.toList = l) := by
 rw [Lib.toList_data, Ycj, beq_iff_eq, Yao]
theorem Zasb (s : ByteArray) (w : World) : Calls prog 165 #[.string s] w fun e w' => e = .returned (.bool (markB s.data.toList)) ∧ w' = w := by
 have HP := Zhd (Tryz.strings_HasPrefix s ⟨#[47, 42]⟩ w);have HX : Hid (markB s.data.toList = (decide (s.data.toList = Zfe) || decide (s.data.toList = Zgy) || Lib.hasPrefix s.data.toList [47, 42])) := rfl
 have q1 : (s.toList == [105, 110, 97, 99, 116, 105, 118, 101, 58]) = decide (s.data.toList = Zfe) := Zks s _;have q2 : (s.toList == [112, 114, 111, 116, 101, 99, 116, 58]) = decide (s.data.toList = Zgy) := Zks s _;have p1 : decide (s.toList = [105, 110, 97, 99, 116, 105, 118, 101, 58]) = decide (s.data.toList = Zfe) := by rw [← q1, Ycj, Yao, beq_iff_eq]
 have p2 : decide (s.toList = [112, 114, 111, 116, 101, 99, 116, 58]) = decide (s.data.toList = Zgy) := by rw [← q2, Ycj, Yao, beq_iff_eq]
 generalize decide (s.data.toList = Zfe) = b1 at *;generalize decide (s.data.toList = Zgy) = b2 at *;generalize Lib.hasPrefix s.data.toList [47, 42] = b3 at *;cases b1 with
 | true =>
   have hK : Hid (markB s.data.toList = true) := by show _ = _; rw [HX.out]; rfl
   clear HX q2 p2 p1;go_enter func165, ntmps165;go_wp2_with fail;go_ret;exact ⟨Zai hK.out.symm, rfl⟩
 | false =>
   have p1' : ¬ s.toList = [105, 110, 97, 99, 116, 105, 118, 101, 58] := of_decide_eq_false p1;clear p1;cases b2 with
   | true =>
     have hK : Hid (markB s.data.toList = true) := by show _ = _; rw [HX.out]; rfl
     clear HX p2;go_enter func165, ntmps165;go_wp2_with fail;go_ret;exact ⟨Zai hK.out.symm, rfl⟩
   | false =>
     have p2' : ¬ s.toList = [112, 114, 111, 116, 101, 99, 116, 58] := of_decide_eq_false p2;clear p2;have hK : Hid (markB s.data.toList = b3) := by show _ = _; rw [HX.out]; rfl
     clear HX;go_enter func165, ntmps165;go_wp2_with (go_at_call 88; refine HP.out.mono ?_; rintro e w' ⟨rfl, rfl⟩);go_ret;exact ⟨Zai hK.out.symm, rfl⟩
theorem Zmq (s : ByteArray) (p : Nat) : (s.extract p s.size).data.toList = s.data.toList.drop p := by
 rw [Lib.extract_data, Ybj (by rw [Yam, Zat]; exact Yaf _)]
theorem Zft {s : ByteArray} (p q : Nat) (h : q ≤ s.size) : (s.extract p q).size = q - p := by
 rw [← Zat, Lib.extract_data, Yad, Yam, Zat]; omega
theorem ne34 {b c : UInt8} (h : b ≠ c) : ((b.toNat : Int) == (c.toNat : Int)) = false := by
 rw [Yak];intro e;exact h (Ybz.1 (by omega))
theorem Zasi {c : UInt8} {l : List UInt8} (h : c ≠ 34) : Zfb (c :: l) = runB (c :: l) := by
 show (if c = 34 then _ else _) = _
 rw [Yab h]
def Zhh (p n : Nat) : Value := .tuple #[.int .i64 (if n = 0 then 0 else ((p + n : Nat) : Int)), .bool (decide (0 < n))]
theorem Zapk (s : ByteArray) (p : Nat) (w : World) (hs : s.size ≤ 1000000000) (hp : p < s.size) (h34 : s[p] ≠ 34) :
 Calls prog 129 #[.string s, .int .i64 p] w fun e w' => e = .returned (Zhh p (Zfb (s.data.toList.drop p))) ∧ w' = w := by
 have hR := Zaax (s.extract p s.size) w (by rw [Zft p s.size (Yaf _)]; omega)
 rw [Zmq, show runB (s.data.toList.drop p) = Zfb (s.data.toList.drop p) by rw [drop_at hp, Zasi h34]] at hR
 have hle := Zun (s.data.toList.drop p);rw [Yam, Zat] at hle;have HR := Zhd hR;have hne : ((s[p].toNat : Int) == 34) = false := ne34 h34;clear hR h34;generalize Zfb (s.data.toList.drop p) = n at *;go_enter func129, ntmps129;by_cases h0 : n = 0
 · subst h0;go_wp2_with (go_at_call 164; refine HR.out.mono ?_; rintro e w' ⟨rfl, rfl⟩);exact bodyPost_ret (v := Zhh p 0) (by simp [results, results129, go_sem, Zhh]) rfl ⟨rfl, rfl⟩
 · have hn : ((n : Int) == 0) = false := by rw [Yak]; omega
   go_wp2_with (go_at_call 164; refine HR.out.mono ?_; rintro e w' ⟨rfl, rfl⟩);exact bodyPost_ret (v := Zhh p n) (by simp [results, results129, go_sem, Zhh, h0]; omega) rfl ⟨rfl, rfl⟩
theorem Zann (c : UInt8) (w : World) : Calls prog 128 #[.int .u8 (c.toNat : Int)] w fun e w' => e = .returned (.int .i64 (Zjy c)) ∧ w' = w := by
 have hX : Hid (Zjy c = if c.toNat = 123 then 2 else if c.toNat = 125 then 3 else if c.toNat = 59 then 4 else 0) := by
  show _ = _;unfold Zjy;simp only [show (c = 123) = (c.toNat = 123) from propext ⟨fun h => by rw [h]; rfl, fun h => Ybz.1 h⟩, show (c = 125) = (c.toNat = 125) from propext ⟨fun h => by rw [h]; rfl, fun h => Ybz.1 h⟩, show (c = 59) = (c.toNat = 59) from propext ⟨fun h => by rw [h]; rfl, fun h => Ybz.1 h⟩]
 have hc256 := c.toNat_lt;generalize c.toNat = n at *;by_cases h1 : n = 123
 · subst h1;go_enter func128, ntmps128;go_wp2;go_ret;exact ⟨by rw [hX.out]; rfl, rfl⟩
 · have g1 : ((n : Int) == 123) = false := by rw [Yak]; omega
   by_cases h2 : n = 125
   · subst h2;go_enter func128, ntmps128;go_wp2;go_ret;exact ⟨by rw [hX.out]; rfl, rfl⟩
   · have g2 : ((n : Int) == 125) = false := by rw [Yak]; omega
     by_cases h3 : n = 59
     · subst h3;go_enter func128, ntmps128;go_wp2;go_ret;exact ⟨by rw [hX.out]; rfl, rfl⟩
     · have g3 : ((n : Int) == 59) = false := by rw [Yak]; omega
       have hK : Hid (Zjy c = 0) := by show _ = _; rw [hX.out, Yab h1, Yab h2, Yab h3]
       clear hX;go_enter func128, ntmps128;go_wp2;go_ret;exact ⟨by rw [hK.out]; rfl, rfl⟩
theorem Zaue (s : ByteArray) (w : World) : Calls prog 130 #[.string s] w fun e w' => e = .returned (.int .i64 (bitB s.data.toList)) ∧ w' = w := by
 have q1 : (s.toList == [105, 110, 97, 99, 116, 105, 118, 101, 58]) = decide (s.data.toList = Zfe) := Zks s _;have q2 : (s.toList == [112, 114, 111, 116, 101, 99, 116, 58]) = decide (s.data.toList = Zgy) := Zks s _;by_cases h1 : s.data.toList = Zfe
 · have hK : Hid (bitB s.data.toList = 1) := by show _ = _; unfold bitB; rw [Yan h1]
   rw [Yal h1] at q1;clear h1 q2;go_enter func130, ntmps130;go_wp2;go_ret;exact ⟨by rw [hK.out]; rfl, rfl⟩
 · rw [Yae h1] at q1;have p1 : ¬ s.toList = [105, 110, 97, 99, 116, 105, 118, 101, 58] := by simpa using q1
   by_cases h2 : s.data.toList = Zgy
   · have hK : Hid (bitB s.data.toList = 2) := by show _ = _; unfold bitB; rw [Yab h1, Yan h2]
     rw [Yal h2] at q2;clear h1 h2;go_enter func130, ntmps130;go_wp2;go_ret;exact ⟨by rw [hK.out]; rfl, rfl⟩
   · rw [Yae h2] at q2;have p2 : ¬ s.toList = [112, 114, 111, 116, 101, 99, 116, 58] := by simpa using q2
     have hK : Hid (bitB s.data.toList = 0) := by show _ = _; unfold bitB; rw [Yab h1, Yab h2]
     clear h1 h2;go_enter func130, ntmps130;go_wp2;go_ret;exact ⟨by rw [hK.out]; rfl, rfl⟩
theorem Zaux : (prog.info? 5).map (fun i => (i.zero, i.size, i.bytes)) = some (some (.int .u8 0), 1, 1) := by kernel_rfl
theorem Zaeo : (prog.info? 217).map (·.size) = some 2 := by kernel_rfl
theorem Zaqk : liesAt prog prog.depth 217 (2 / prog.cellsOf 217) 0 217 1 = true := by kernel_rfl
theorem Zsp (b : Nat) (w : World) (h0 : w.cell? ⟨b, 0, none⟩ = some (.pointer (some ⟨b, 0, none⟩))) :
 Calls prog 193 #[.pointer (some ⟨b, 0, none⟩)] w fun e w' => e = .returned (.tuple #[]) ∧ w' = w := by
 obtain ⟨j, hj, _⟩ := Option.map_eq_some_iff.1 Zaeo;go_enter func193, ntmps193;go_wp2;rw [Lib.run_neq_ptr_same w _ underlying214 hj];go_wp2;go_end0;exact ⟨rfl, rfl⟩
theorem Zrj (b : Nat) (w : World) (h0 : w.cell? ⟨b, 0, none⟩ = some (.pointer none)) (hsh : w.shape? b = some (217, 2)) (hfz : w.frozen? ⟨b, 0, none⟩ = false) :
 Calls prog 193 #[.pointer (some ⟨b, 0, none⟩)] w fun e w' => e = .returned (.tuple #[]) ∧ w' = w.setCell ⟨b, 0, none⟩ (.pointer (some ⟨b, 0, none⟩)) := by
 obtain ⟨j, hj, hjs⟩ := Option.map_eq_some_iff.1 Zaeo;go_enter func193, ntmps193;go_wp2;rw [Lib.run_to_unsafe w ⟨b, 0, none⟩ underlying214 underlying269 hj (by rw [hjs]; decide) hsh (Nat.zero_lt_succ 1)]
 simp only [Result.andThen];rw [Oper.upon_value];go_wp2;rw [run_callFunc_extern func221 (by kernel_rfl) (by kernel_rfl) (by kernel_rfl) (e := Extern.AbiNoEscape.same) (by kernel_rfl)]
 rw [Lib.run_noEscape];simp only [Result.andThen];rw [Oper.upon_value];go_wp2;rw [Lib.run_from_unsafe w ⟨b, 0, none⟩ underlying269 underlying214 hj hsh Zaqk];simp only [Result.andThen];rw [Oper.upon_value];go_wp2;go_end0;exact ⟨rfl, rfl⟩
theorem Zvg (B b : Nat) (bs : List Value) (w : World) (h : Lib.IsBuilder 217 5 B b bs w) :
 Calls prog 193 #[.pointer (some ⟨b, 0, none⟩)] w fun e w' => e = .returned (.tuple #[]) ∧ (Lib.BuilderAt 217 5 B b (.pointer (some ⟨b, 0, none⟩)) bs w' ∧ Below B w w') := by
 rcases h with h | h
 · refine (Zrj b w h.cell0 h.shape h.frozen0).mono ?_;rintro e w' ⟨rfl, rfl⟩;exact ⟨rfl, h.used _, (Yac B w).setCell (p := ⟨b, 0, none⟩) h.1 _⟩
 · refine (Zsp b w h.cell0).mono ?_;rintro e w' ⟨rfl, rfl⟩;exact ⟨rfl, h, Yac B _⟩
theorem Zva (B b : Nat) (bs : List Value) (c : Int) (w : World) (h : Lib.IsBuilder 217 5 B b bs w) (hlen : bs.length + 1 ≤ 1000000000) (_ : B ≤ w.heap.size) :
 Calls prog 201 #[.pointer (some ⟨b, 0, none⟩), .int .u8 c] w fun e w' => e = .returned .nilIface ∧ (Lib.BuilderAt 217 5 B b (.pointer (some ⟨b, 0, none⟩)) (bs ++ [.int .u8 c]) w' ∧ Below B w w') := by
 obtain ⟨i0, hi, hz0, hz1, hz2⟩ := info_parts Zaux;go_enter func201, ntmps201;go_wp2_with fail;refine (Zvg B b bs _ h).mono ?_;rintro e w1 ⟨rfl, h1, hb1⟩;obtain ⟨hB, v, hbk, hown, hne⟩ := h1;have c0 : w1.cell? ⟨b, 0, none⟩ = some (.pointer (some ⟨b, 0, none⟩)) := by rw [Lib.cell_of_heap hbk]; rfl
 have c1 : w1.cell? ⟨b, 1, none⟩ = some v := by rw [Lib.cell_of_heap hbk]; rfl
 go_wp2_with (at_builtin; refine wpList_append_own _ rfl _ _ 215 rfl B 5 i0 (.int .u8 0) 1 1 underlying215 hi hz0 hz1 hz2 rfl (by decide) _ _ _ rfl (hown.alloc _) ⟨w1.heap.size, 0, none⟩ 1 1 [.int .u8 c] rfl rfl ?c1 ?c2 ?c3 ?c4 ?c5 ?_)
 case c1 =>
  intro j u hj
  match j, hj with
  | 0, hj => simp at hj; subst hj; simp [Addr.add]
 case c2 => intro u hu; simp at hu; subst hu; rfl
 case c3 => unfold maxLen; omega
 case c4 => omega
 case c5 => have := hb1.size; simp; omega
 intro v' w2 hown' hgrow _;have hlt : b < w1.heap.size := by
  rcases Ybp b w1.heap.size with h' | h'
  · exact h'
  · simp [Array.getElem?_eq_none h'] at hbk
 have hb2 : w2.heap[b]? = some (.cells #[.pointer (some ⟨b, 0, none⟩), v] 217 (0, 0)) := by
  rw [hgrow.block b (by simp; omega) (fun e => hne e.symm), Lib.alloc_old w1 _ b hlt]
  exact hbk
 have d0 : w2.cell? ⟨b, 0, none⟩ = some (.pointer (some ⟨b, 0, none⟩)) := by rw [Lib.cell_of_heap hb2]; rfl
 have d1 : w2.cell? ⟨b, 1, none⟩ = some v := by rw [Lib.cell_of_heap hb2]; rfl
 have f1 : w2.frozen? ⟨b, 1, none⟩ = false := Lib.frozen_of_heap hb2 1;obtain ⟨g, cap, rfl⟩ : ∃ g cap, v' = .slice (some ⟨g, 0, none⟩) (bs.length + 1) cap := by
  rcases hown'.2 with ⟨_, h0⟩ | ⟨g, cap, cur, hv, _⟩
  · omega
  · exact ⟨g, cap, hv⟩
 go_wp2;go_ret;refine ⟨rfl, ?_, ?_⟩
 · exact Lib.BuilderAt.put (T := 217) (e := 5) hB hb2 (bs' := bs ++ [.int .u8 c]) (by simpa using hown') (by decide)
 · exact ((hb1.alloc (by have := hb1.size; omega) _).grown hgrow (by have := hb1.size; simp; omega) (fun k hk => (hown.lt k hk).1)).setCell (p := ⟨b, 1, none⟩) hB _
end Go.Proofs.Zq
namespace Adr
open Go
theorem parts_len (c : UInt8) (l : List UInt8) : (parts c l).length ≤ l.length + 1 := by
 induction l with
 | nil => simp [Zmp]
 | cons b r ih =>
   by_cases h : b = c
   · subst h; rw [Zle]; simp; omega
   · rw [Zec _ _ _ h, Zwu _ _ (Zmv _ _)]; simp; omega
theorem parts_short (c : UInt8) (l p : List UInt8) (h : p ∈ parts c l) : p.length ≤ l.length := by
 induction l generalizing p with
 | nil => simp [Zmp] at h; subst h; simp
 | cons b r ih =>
   by_cases hb : b = c
   · subst hb;rw [Zle, Yaw] at h;rcases h with rfl | h
     · simp
     · have := ih p h; simp; omega
   · rw [Zec _ _ _ hb] at h;cases hp : parts c r with
     | nil => exact absurd hp (Zmv c r)
     | cons x y =>
       rw [hp] at h ih;simp only [ahead, Yaw] at h;rcases h with rfl | h
       · have := ih x (by simp); simp; omega
       · have := ih p (by simp [h]); simp; omega
end Adr
namespace Go.Proofs.Zq
open Tryz
open Go.RowKit
theorem Zdx : (prog.info? 9).map (fun i => (i.zero, i.size, i.bytes)) = some (some (.string ⟨#[]⟩), 1, 16) := by kernel_rfl
def Zua (w : World) (c : UInt8) (l : List UInt8) (e : Ending) (w' : World) : Prop :=
 ∃ A cap, e = .returned (.slice A (Adr.parts c l).length cap) ∧ (Adr.parts c l).length ≤ cap ∧ cap ≤ maxLen ∧ Rd w' 1 A (Adr.parts c l).length (strs (Adr.parts c l)) ∧ Below w.heap.size w w'
end Go.Proofs.Zq
