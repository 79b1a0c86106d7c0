/- What the walks are told of the library's variables, and that it stays so behind a call that only makes memory. Words for memory, of no program: slices that read as a list; an append onto a row of the call's own; strings as lists of bytes. Plain facts on decimal numerals: what strconv.Atoi and strconv.Itoa, held together, take for a number's text. No program in sight. Plain facts on texts of parts: an address' four numbers, a prefix' two words. No program in sight. Plain facts on addresses in prefixes. No program in sight. Plain facts on the bits of numbers from 0 on, as the walk spells them. Plain facts: what the library's Split, Cut, ReplaceAll and Join are at one byte. No program in sight. Plain facts on hardware addresses. No program in sight. Walks: the functions that only reckon: rest, right, In, Power, Right, In of the references. -/
import Derived.Test.YtmhgacgneckboaaGreatDoorProg
import Derived.WalkKit
import Derived.WalkSmall
import Derived.Lib.LaidTab
import Derived.Lib.ItoaNum
import Derived.Lib.AtoiErrMem
import Derived.Lib.AppendIntMem
import Derived.Lib.Hide
import Derived.OwnWalk
import Derived.Laws.OwnMore
import Derived.Laws.AppendOwn
import Derived.Deep.Draws
import Derived.Lib.Strings
import Derived.Lib.AtoiAll
import Derived.Laws.BitsAllLaws
import Derived.Lib.ReplaceLaws
import Derived.Lib.Join
import Derived.WalkSpells
import Derived.WalkLawsBesides
import Derived.BigQuiet
import Derived.Deep.QuietTactic
namespace Go.Proofs.YtmhgacgneckboaaGreatDoor
open Go.RowKit

theorem gPow : Tryz.prog.globalNamed "internal/strconv.uint64pow10" = some 5 := by kernel_rfl

structure Env (w : World) : Prop where
  mx : ∃ m : Int, w.cell? ⟨2, 0, none⟩ = some (.int .i64 m)
  es : ∃ tp p, w.cell? ⟨3, 0, none⟩ = some (.iface tp p)
  er : ∃ tp p, w.cell? ⟨4, 0, none⟩ = some (.iface tp p)
  tb : Lib.TabIs Tryz.prog w "internal/strconv.uint64pow10" .u64 Lib.pow10Tab

theorem Env.below {w w' : World} (h : Env w) (hb : Below w.heap.size w w') : Env w' := by
  obtain ⟨⟨m, hm⟩, ⟨t1, p1, h1⟩, ⟨t2, p2, h2⟩, ht⟩ := h
  have hz := ht.cell gPow 0 (by decide)
  exact ⟨⟨m, (hb.cell (Lib.lt_of_cell hm)).trans hm⟩, ⟨t1, p1, (hb.cell (Lib.lt_of_cell h1)).trans h1⟩, ⟨t2, p2, (hb.cell (Lib.lt_of_cell h2)).trans h2⟩, var?_below hb gPow (Lib.lt_of_cell hz) ht⟩
theorem below_step {w a b : World} (h : Below w.heap.size w a) (k : Below a.heap.size a b) : Below w.heap.size w b := h.trans (k.mono h.size)
theorem below_drews {w : World} (n : Nat) : Below w.heap.size w (w.drewN n) := below_drewN (Below.refl _ _) n
theorem Env.drewN {w : World} (h : Env w) (n : Nat) : Env (w.drewN n) := h.below (below_drews n)
theorem mk_data (s : ByteArray) : (⟨s.data.toList.toArray⟩ : ByteArray) = s := by cases s; simp
theorem data_mk (l : List UInt8) : (⟨l.toArray⟩ : ByteArray).data.toList = l := by simp
theorem size_mk (l : List UInt8) : (⟨l.toArray⟩ : ByteArray).size = l.length := by simp [ByteArray.size]
theorem size_data (s : ByteArray) : s.data.toList.length = s.size := by simp
theorem ret_pair {a b a' b' : Value} (h : a = a') (k : b = b') : Ending.returned (.tuple #[a, b]) = .returned (.tuple #[a', b']) := by rw [h, k]
theorem ret_three {a b c a' b' c' : Value} (h : a = a') (k : b = b') (j : c = c') : Ending.returned (.tuple #[a, b, c]) = .returned (.tuple #[a', b', c']) := by rw [h, k, j]
end Go.Proofs.YtmhgacgneckboaaGreatDoor

namespace Go.Proofs.YtmhgacgneckboaaGreatDoor
open Go Go.RowKit

theorem add_block (a : Addr) (n : Nat) : (a.add n).block = a.block := by unfold Addr.add; split <;> rfl
theorem add_twice (a : Addr) (i j : Nat) : (a.add i).add j = a.add (i + j) := by
  unfold Addr.add
  by_cases hi : i = 0
  · simp [hi]
  · by_cases hj : j = 0
    · simp [hi, hj]
    · simp [hi, hj, Nat.add_assoc]
theorem add_plain (b o j : Nat) : (⟨b, o, none⟩ : Addr).add j = ⟨b, o + j, none⟩ := by
  unfold Addr.add; split
  · subst_vars; rfl
  · rfl

/-- The slice with address A and n elements of k cells each reads xs. -/
def Rd (w : World) (k : Nat) (A : Option Addr) (n : Nat) (xs : List Value) : Prop :=
  xs.length = n * k ∧ (0 < n → ∃ ad, A = some ad ∧ ad.block < w.heap.size ∧ ∀ j u, xs[j]? = some u → w.cell? (ad.add j) = some u)
section
variable {w w' : World} {k n : Nat} {A : Option Addr} {xs : List Value}
theorem Rd.nil : Rd w k A 0 [] := ⟨by simp, fun h => absurd h (by omega)⟩
theorem Rd.keep (h : Rd w k A n xs) (hs : w.heap.size ≤ w'.heap.size) (hc : ∀ p : Addr, p.block < w.heap.size → w'.cell? p = w.cell? p) : Rd w' k A n xs :=
  ⟨h.1, fun hn => by
    obtain ⟨ad, e, hb, hx⟩ := h.2 hn
    exact ⟨ad, e, Nat.lt_of_lt_of_le hb hs, fun j u hu => (hc _ (by rw [add_block]; exact hb)).trans (hx j u hu)⟩⟩
theorem Rd.below (h : Rd w k A n xs) (hb : Below w.heap.size w w') : Rd w' k A n xs := h.keep hb.size fun _ hp => hb.cell hp
theorem Rd.drew (h : Rd w k A n xs) : Rd w.drew k A n xs := h
theorem Rd.drewN (h : Rd w k A n xs) (m : Nat) : Rd (w.drewN m) k A n xs := h
theorem Rd.alloc (h : Rd w k A n xs) (o : Obj) : Rd (w.alloc o) k A n xs := h.keep (by simp) fun p hp => World.cell?_alloc_lt w o p hp
/-- The j-th cell. -/
theorem Rd.cell (h : Rd w k A n xs) {j : Nat} {u : Value} (hu : xs[j]? = some u) : ∃ ad, A = some ad ∧ ad.block < w.heap.size ∧ w.cell? (ad.add j) = some u := by
  have hj : j < xs.length := (List.getElem?_eq_some_iff.1 hu).1
  obtain ⟨ad, e, hb, hx⟩ := h.2 (by
    rcases Nat.eq_zero_or_pos n with h0 | h0
    · rw [h.1, h0] at hj; omega
    · exact h0)
  exact ⟨ad, e, hb, hx j u hu⟩
/-- A part: x[i:j]. -/
theorem Rd.part (h : Rd w k A n xs) {i j cap : Nat} (hij : i ≤ j) (hj : j ≤ n) (hc : n ≤ cap) : Rd w k (if cap = i then A else A.map (·.add (i * k))) (j - i) ((xs.drop (i * k)).take ((j - i) * k)) := by
  refine ⟨?_, fun hn => ?_⟩
  · rw [List.length_take, List.length_drop, h.1, ← Nat.sub_mul]
    exact Nat.min_eq_left (Nat.mul_le_mul_right _ (by omega))
  · obtain ⟨ad, rfl, hb, hx⟩ := h.2 (by omega)
    rw [if_neg (by omega)]
    refine ⟨ad.add (i * k), rfl, by rw [add_block]; exact hb, fun q u hu => ?_⟩
    rw [add_twice]
    refine hx _ u ?_
    by_cases hq : q < (j - i) * k
    · rw [List.getElem?_take_of_lt hq, List.getElem?_drop] at hu; exact hu
    · rw [List.getElem?_take_eq_none (by omega)] at hu; cases hu
theorem Rd.of_own {base : Nat} {e : TypeId} {c : Nat} (h : w.ownsRow base e k (.slice A n c) n xs) : Rd w k A n xs := by
  refine ⟨h.1, fun hn => ?_⟩
  rcases h.2 with ⟨hv, h0⟩ | ⟨g, cap, cur, hv, _, hh, _⟩
  · omega
  · injection hv with hA
    subst hA
    refine ⟨_, rfl, ?_, h.cells (g := g) rfl⟩
    rcases Nat.lt_or_ge g w.heap.size with hlt | hge
    · exact hlt
    · rw [Array.getElem?_eq_none hge] at hh; cases hh
/-- What is owned reads as a list. -/
theorem rd_own {base : Nat} {e : TypeId} {v : Value} (h : w.ownsRow base e k v n xs) : ∃ A c, v = .slice A n c ∧ n ≤ c ∧ c ≤ maxLen ∧ Rd w k A n xs := by
  rcases h.2 with ⟨rfl, rfl⟩ | ⟨g, cap, cur, rfl, hg, hh, hnc, hcm, hsz, ht⟩
  · exact ⟨none, 0, rfl, Nat.le_refl _, by unfold maxLen; omega, Rd.of_own (base := base) (e := e) (c := 0) h⟩
  · exact ⟨some ⟨g, 0, none⟩, cap, rfl, hnc, hcm, Rd.of_own h⟩
end

theorem own_below {w w' : World} {base : Nat} {e : TypeId} {k : Nat} {v : Value} {n : Nat} {xs : List Value} (h : w.ownsRow base e k v n xs) (hb : Below w.heap.size w w') : w'.ownsRow base e k v n xs :=
  h.kept (row := none) ⟨hb.os, hb.tape, hb.output, hb.size, fun i hi _ => hb.block i hi⟩ (by
    cases hv : v.ownBlock with
    | none => exact .inl rfl
    | some g => exact .inr (by simp))
/-- An append of what the call has just laid, onto a row of the call's own: w0 is the world at the call's beginning. -/
theorem app_new {P : Program} {ops : Array Oper} {rest : List Oper} {o : Oper} {a : Act} {Q : Exit → Act → World → Prop} (hgd : o.guard = none) (s x : Operand) (t : TypeId)
    (ho : o.op = .call { callee := .builtin .append, args := #[s, x], argTypes := #[t, t] })
    (w0 wr : World) (e : TypeId) (i : TypeInfo) (z : Value) (size bytes : Nat) (ht : P.underlying t = some (.slice e)) (hi : P.info? e = some i) (hz : i.zero = some z)
    (hsize : i.size = size) (hby : i.bytes = bytes) (hzs : z.cells.size = size) (hsz : 0 < size) (hb64 : bytes ≤ 64)
    {v : Value} {n : Nat} {xs : List Value} (hown : wr.ownsRow w0.heap.size e size v n xs) (hb : Below w0.heap.size w0 wr) (hs : a.eval s = v)
    (m c : Nat) (news : List Value) (hx : a.eval x = .slice (some ⟨wr.heap.size, 0, none⟩) m c) (hl : news.length = m * size) (h1 : ∀ u ∈ news, u.oneCell' = true)
    (hN : n + m ≤ 1000000000)
    (h : ∀ v' w', w'.ownsRow w0.heap.size e size v' (n + m) (xs ++ news) → Below w0.heap.size w0 w' → wpList P ops Q rest (a.put o.dst v') w') :
    wpList P ops Q (o :: rest) a (wr.alloc (.cells news.toArray e)) := by
  have hbytes : (n + m) * bytes ≤ 140737488355328 := Nat.le_trans (Nat.mul_le_mul hN hb64) (by decide)
  refine wpList_append_own _ hgd s x t ho w0.heap.size e i z size bytes ht hi hz hsize hby hzs hsz v n xs hs (hown.alloc _) ⟨wr.heap.size, 0, none⟩ m c news hx hl ?_ h1 (by unfold maxLen; omega) hbytes (Nat.le_trans hb.size (by simp)) ?_
  · intro j u hu
    have hj : j < news.length := (List.getElem?_eq_some_iff.1 hu).1
    rw [add_plain, Nat.zero_add, World.cell?_alloc_at _ _ _ _ rfl]
    simpa using hu
  · intro v' w' hown' hg _
    refine h v' w' hown' ((hb.alloc hb.size _).grown hg (Nat.le_trans hb.size (by simp)) fun q hq => (hown.lt q hq).1)

/-- An append inside a region that draws its order. -/
theorem step_app {P : Program} {ops : Array Oper} {o : Oper} {a : Act} {K : Act → World → Prop} {Q : Exit → Act → World → Prop} {E : Prop} (hgd : o.guard = none) (s x : Operand) (t : TypeId)
    (ho : o.op = .call { callee := .builtin .append, args := #[s, x], argTypes := #[t, t] })
    (w0 : World) {wr : World} (e : TypeId) (i : TypeInfo) (z : Value) (size bytes : Nat) (ht : P.underlying t = some (.slice e)) (hi : P.info? e = some i) (hz : i.zero = some z)
    (hsize : i.size = size) (hby : i.bytes = bytes) (hzs : z.cells.size = size) (hsz : 0 < size) (hb64 : bytes ≤ 64)
    {v : Value} {n : Nat} {xs : List Value} (hown : wr.ownsRow w0.heap.size e size v n xs) (hb : Below w0.heap.size w0 wr) (hs : a.eval s = v)
    (ad : Addr) (m c : Nat) (news : List Value) (hx : a.eval x = .slice (some ad) m c) (hl : news.length = m * size) (hnews : ∀ j u, news[j]? = some u → wr.cell? (ad.add j) = some u) (h1 : ∀ u ∈ news, u.oneCell' = true)
    (hN : n + m ≤ 1000000000)
    (h : ∀ v' w', w'.ownsRow w0.heap.size e size v' (n + m) (xs ++ news) → Below w0.heap.size w0 w' → K (a.put o.dst v') w') :
    if Region.wanted o (yielded ops a.tmps) = true then Oper.wp P o a wr K Q else E := by
  have hw : Region.wanted o (yielded ops a.tmps) = true := by simp [Region.wanted, hgd]
  have hbytes : (n + m) * bytes ≤ 140737488355328 := Nat.le_trans (Nat.mul_le_mul hN hb64) (by decide)
  rw [if_pos hw]
  exact wp_append_own wr s x t ho w0.heap.size e i z size bytes ht hi hz hsize hby hzs hsz v n xs hs hown ad m c news hx hl hnews h1 (by unfold maxLen; omega) hbytes hb.size
    fun v' w' hown' hg _ => h v' w' hown' (hb.grown hg hb.size fun q hq => (hown.lt q hq).1)

/-- Strings, as values. -/
def strs (L : List (List UInt8)) : List Value := L.map fun l => .string ⟨l.toArray⟩
theorem strs_length (L : List (List UInt8)) : (strs L).length = L.length := by unfold strs; simp
theorem strs_nil : strs [] = [] := rfl
theorem strs_append (L M : List (List UInt8)) : strs (L ++ M) = strs L ++ strs M := by unfold strs; simp
theorem strs_one (l : List UInt8) : strs [l] = [.string ⟨l.toArray⟩] := rfl
theorem strs_get {L : List (List UInt8)} {j : Nat} (h : j < L.length) : (strs L)[j]? = some (.string ⟨(L[j]).toArray⟩) := by unfold strs; simp [h]
theorem strs_cells (L : List (List UInt8)) : ∀ u ∈ strs L, u.oneCell' = true := by
  unfold strs; intro u hu
  obtain ⟨l, _, rfl⟩ := List.mem_map.1 hu
  rfl
theorem strs_of (L : List ByteArray) : L.map Value.string = strs (L.map (·.data.toList)) := by
  unfold strs; rw [List.map_map]; congr 1
theorem bytes_of (s : ByteArray) : ∃ l : List UInt8, s = ⟨l.toArray⟩ := ⟨s.data.toList, (Lib.mk_data s).symm⟩
end Go.Proofs.YtmhgacgneckboaaGreatDoor

namespace Adr
open Go.Lib

def isDig (c : UInt8) : Bool := decide (48 ≤ c.toNat) && decide (c.toNat ≤ 57)
def valFrom (a : Nat) (l : List UInt8) : Nat := l.foldl (fun a c => 10 * a + (c.toNat - 48)) a
theorem valFrom_nil (a : Nat) : valFrom a [] = a := rfl
theorem valFrom_cons (a : Nat) (c : UInt8) (r : List UInt8) : valFrom a (c :: r) = valFrom (10 * a + (c.toNat - 48)) r := by unfold valFrom; rw [List.foldl_cons]
def val (l : List UInt8) : Nat := valFrom 0 l
/-- The text of a number: 1 to 10 digits, the first not 0 but for 0 itself. -/
def canon : List UInt8 → Bool
  | [] => false
  | c :: r => decide (r.length < 10) && !(c == 48 && !r.isEmpty) && (c :: r).all isDig
/-- The reference's number: -1 where there is none. -/
def num (l : List UInt8) : Int := if canon l then (val l : Int) else -1

theorem valFrom_append (a : Nat) (l m : List UInt8) : valFrom a (l ++ m) = valFrom (valFrom a l) m := by
  unfold valFrom; rw [List.foldl_append]

theorem isDig_iff (c : UInt8) : isDig c = true ↔ 48 ≤ c.toNat ∧ c.toNat ≤ 57 := by simp [isDig]

theorem valFrom_lt (l : List UInt8) (a : Nat) (h : l.all isDig = true) : valFrom a l < (a + 1) * 10 ^ l.length := by
  induction l generalizing a with
  | nil => simp [valFrom_nil]
  | cons c r ih =>
    simp only [List.all_cons, Bool.and_eq_true] at h
    have hc := (isDig_iff c).1 h.1
    have := ih (10 * a + (c.toNat - 48)) h.2
    simp only [valFrom_cons, List.length_cons, Nat.pow_succ]
    have h2 : (10 * a + (c.toNat - 48) + 1) * 10 ^ r.length ≤ (10 * (a + 1)) * 10 ^ r.length := Nat.mul_le_mul_right _ (by omega)
    have h3 : (10 * (a + 1)) * 10 ^ r.length = (a + 1) * (10 ^ r.length * 10) := by
      rw [Nat.mul_comm 10 (a + 1), Nat.mul_assoc, Nat.mul_comm 10]
    omega

theorem val_lt (l : List UInt8) (h : l.all isDig = true) : val l < 10 ^ l.length := by
  have := valFrom_lt l 0 h
  simpa [val] using this

theorem parse_digits (l : List UInt8) (a : Nat) (h : l.all isDig = true) (hb : (a + 1) * 10 ^ l.length ≤ 10000000000) : parseUint10 a l = .ok (valFrom a l) := by
  induction l generalizing a with
  | nil => rfl
  | cons c r ih =>
    simp only [List.all_cons, Bool.and_eq_true] at h
    have hc := (isDig_iff c).1 h.1
    have hp : 1 ≤ 10 ^ r.length := Nat.one_le_pow _ _ (by decide)
    simp only [List.length_cons, Nat.pow_succ] at hb
    have e3 : (a + 1) * (10 ^ r.length * 10) = (10 * (a + 1)) * 10 ^ r.length := by
      rw [Nat.mul_comm 10 (a + 1), Nat.mul_assoc, Nat.mul_comm 10]
    have e4 : 10 * (a + 1) ≤ (10 * (a + 1)) * 10 ^ r.length := Nat.le_mul_of_pos_right _ hp
    have e5 : (10 * a + (c.toNat - 48) + 1) * 10 ^ r.length ≤ (10 * (a + 1)) * 10 ^ r.length := Nat.mul_le_mul_right _ (by omega)
    rw [parseUint10, if_pos hc, if_neg (by omega), if_neg (by omega), Nat.mul_comm a 10]
    exact ih _ h.2 (by omega)

theorem dig_ofNat {u : Nat} (h : u < 10) : (UInt8.ofNat (48 + u)).toNat = 48 + u := by simp; omega

theorem dec_digits (n : Nat) : (decDigits n).all isDig = true := by
  induction n using Nat.strongRecOn with
  | _ n ih =>
    rw [decDigits]
    split
    · rename_i h
      simp only [List.all_cons, List.all_nil, Bool.and_true, isDig_iff]
      have := dig_ofNat h; omega
    · rename_i h
      rw [List.all_append, ih (n / 10) (by omega)]
      simp only [List.all_cons, List.all_nil, Bool.and_true, Bool.true_and, isDig_iff]
      have := dig_ofNat (show n % 10 < 10 by omega); omega

theorem val_dec (n : Nat) : val (decDigits n) = n := by
  induction n using Nat.strongRecOn with
  | _ n ih =>
    rw [decDigits]
    split
    · rename_i h
      have := dig_ofNat h
      simp only [val, valFrom_cons, valFrom_nil]; omega
    · rename_i h
      have e := ih (n / 10) (by omega)
      have := dig_ofNat (show n % 10 < 10 by omega)
      unfold val at e ⊢
      rw [valFrom_append, e]
      simp only [valFrom_cons, valFrom_nil]; omega

theorem dec_ne (n : Nat) : decDigits n ≠ [] := by
  rw [decDigits]; split <;> simp

/-- The first digit is not 0, but of 0 itself. -/
theorem dec_head (n : Nat) (hn : n ≠ 0) : ∀ c, (decDigits n).head? = some c → c ≠ 48 := by
  induction n using Nat.strongRecOn with
  | _ n ih =>
    intro c hc e
    rw [decDigits] at hc
    split at hc
    · rename_i h
      have h1 := dig_ofNat h
      simp only [List.head?_cons, Option.some.injEq] at hc
      subst e
      rw [hc] at h1
      simp at h1; omega
    · rename_i h
      have hne := dec_ne (n / 10)
      cases hd : decDigits (n / 10) with
      | nil => exact hne hd
      | cons d r =>
        rw [hd] at hc
        simp only [List.cons_append, List.head?_cons, Option.some.injEq] at hc
        exact ih (n / 10) (by omega) (by omega) d (by rw [hd]; rfl) (hc.trans e)

/-- A numeral without a leading 0 is its number's own. -/
theorem dec_val (l : List UInt8) (hne : l ≠ []) (hd : l.all isDig = true) (h0 : ∀ c, l.head? = some c → c = 48 → l.length = 1) : decDigits (val l) = l := by
  suffices h : ∀ (k : Nat) (l : List UInt8), l.length = k → l ≠ [] → l.all isDig = true → (∀ c, l.head? = some c → c = 48 → l.length = 1) → decDigits (val l) = l from h _ l rfl hne hd h0
  intro k
  induction k using Nat.strongRecOn with
  | _ k ih =>
    intro l hk hne hd h0
    obtain ⟨m, c, rfl⟩ : ∃ m c, l = m ++ [c] := ⟨l.dropLast, l.getLast hne, (List.dropLast_concat_getLast hne).symm⟩
    rw [List.all_append, Bool.and_eq_true] at hd
    obtain ⟨hm, hc⟩ := hd
    simp only [List.all_cons, List.all_nil, Bool.and_true, isDig_iff] at hc
    have ev : val (m ++ [c]) = 10 * val m + (c.toNat - 48) := by simp only [val, valFrom_append, valFrom_cons, valFrom_nil]
    by_cases hmn : m = []
    · subst hmn
      rw [ev]
      simp only [val, valFrom_nil, List.nil_append]
      rw [decDigits, dif_pos (by omega)]
      congr 1
      apply UInt8.toNat_inj.1
      rw [dig_ofNat (by omega)]; omega
    · have em : decDigits (val m) = m := ih m.length (by rw [← hk]; simp) m rfl hmn hm (by
        intro d hdh he
        have := h0 d (by rw [List.head?_append, hdh]; rfl) he
        simp at this
        exact absurd this hmn)
      have hpos : 1 ≤ val m := by
        rcases Nat.eq_zero_or_pos (val m) with hz | hz
        · exfalso
          rw [hz, decDigits, dif_pos (by omega)] at em
          have := h0 48 (by rw [← em]; rfl) rfl
          rw [← em] at this
          simp at this
        · exact hz
      rw [ev, decDigits, dif_neg (by omega), show (10 * val m + (c.toNat - 48)) / 10 = val m by omega, em]
      congr 2
      apply UInt8.toNat_inj.1
      rw [dig_ofNat (by omega)]; omega

theorem canon_iff (l : List UInt8) : canon l = true ↔ l ≠ [] ∧ l.length ≤ 10 ∧ l.all isDig = true ∧ ∀ c, l.head? = some c → c = 48 → l.length = 1 := by
  cases l with
  | nil => simp [canon]
  | cons c r =>
    simp only [canon, Bool.and_eq_true, decide_eq_true_eq, Bool.not_eq_true', Bool.and_eq_false_iff, List.length_cons, List.head?_cons, Option.some.injEq]
    constructor
    · rintro ⟨⟨h1, h2⟩, h3⟩
      refine ⟨by simp, by omega, h3, ?_⟩
      rintro d rfl rfl
      rcases h2 with h2 | h2
      · simp at h2
      · cases r with
        | nil => rfl
        | cons a b => simp at h2
    · rintro ⟨_, h1, h3, h2⟩
      refine ⟨⟨by omega, ?_⟩, h3⟩
      by_cases hc : c = 48
      · right
        have := h2 c rfl hc
        have hr : r = [] := List.length_eq_zero_iff.1 (by omega)
        subst hr; rfl
      · left; simp [hc]

theorem canon_dec (n : Nat) (h : n < 10000000000) : canon (decDigits n) = true := by
  rw [canon_iff]
  refine ⟨dec_ne n, ?_, dec_digits n, ?_⟩
  · rw [decDigits_length]
    have : ¬ 11 ≤ nDigits n := by
      intro h11
      have hge : ∀ (k n : Nat), k + 1 ≤ nDigits n → 10 ^ k ≤ n ∨ (k = 0) := by
        intro k
        induction k with
        | zero => intro n _; right; rfl
        | succ k ih =>
          intro n hn
          left
          by_cases hs : n < 10
          · rw [nDigits_small hs] at hn; omega
          · rw [nDigits_big hs] at hn
            rcases ih (n / 10) (by omega) with h | h
            · rw [Nat.pow_succ]; omega
            · subst h; simp; omega
      rcases hge 10 n h11 with h | h
      · simp at h; omega
      · omega
    omega
  · intro c hc h48
    by_cases hn : n = 0
    · subst hn; rw [decDigits]; rfl
    · exact absurd h48 (dec_head n hn c hc)

theorem num_dec (n : Nat) (h : n < 10000000000) : num (decDigits n) = n := by
  unfold num; rw [if_pos (canon_dec n h), val_dec]

/-- What Atoi says of a number's text. -/
theorem atoi_canon (l : List UInt8) (h : canon l = true) : atoiAll l = .ok (val l) := by
  obtain ⟨hne, hlen, hd, _⟩ := (canon_iff l).1 h
  cases l with
  | nil => exact absurd rfl hne
  | cons c r =>
    have hc := (isDig_iff c).1 (by simp only [List.all_cons, Bool.and_eq_true] at hd; exact hd.1)
    have hp : 10 ^ (c :: r).length ≤ 10 ^ 10 := Nat.pow_le_pow_right (by decide) hlen
    have hv := val_lt (c :: r) hd
    have e : parseUint10 0 (c :: r) = .ok (val (c :: r)) := parse_digits (c :: r) 0 hd (by simpa using hp)
    unfold atoiAll
    simp only
    rw [if_neg (by omega)]
    unfold parseMag
    rw [if_neg (by simp), e]
    simp only
    rw [if_neg (by omega), if_neg (by omega), if_neg (by omega)]

/-- A number that is not negative, and whose own text is the one that was read, and short: is the text's. -/
theorem canon_of_itoa (l : List UInt8) (n : Int) (h0 : 0 ≤ n) (hlen : l.length ≤ 10) (h : itoa n = l) : canon l = true ∧ n = val l := by
  unfold itoa at h
  rw [if_neg (by omega)] at h
  subst h
  refine ⟨?_, by rw [val_dec]; omega⟩
  rw [canon_iff]
  refine ⟨dec_ne _, hlen, dec_digits _, ?_⟩
  intro c hc h48
  by_cases hn : n.toNat = 0
  · rw [hn, decDigits]; rfl
  · exact absurd h48 (dec_head _ hn c hc)

theorem itoa_val (l : List UInt8) (h : canon l = true) : itoa (val l) = l := by
  obtain ⟨hne, _, hd, h0⟩ := (canon_iff l).1 h
  unfold itoa
  rw [if_neg (by omega)]
  exact dec_val l hne hd h0

theorem num_of_canon {l : List UInt8} (h : canon l = true) : num l = val l := by unfold num; rw [if_pos h]
theorem num_of_not {l : List UInt8} (h : canon l = false) : num l = -1 := by unfold num; simp [h]
theorem num_lt (l : List UInt8) : num l < 10000000000 := by
  unfold num
  split
  · rename_i h
    obtain ⟨_, hlen, hd, _⟩ := (canon_iff l).1 h
    have hv := val_lt l hd
    have hp : 10 ^ l.length ≤ 10 ^ 10 := Nat.pow_le_pow_right (by decide) hlen
    omega
  · omega
theorem num_ge (l : List UInt8) : -1 ≤ num l := by unfold num; split <;> omega
end Adr

namespace Adr
open Go.Lib

/-- The first part gets more ahead of it. -/
def ahead (p : List UInt8) : List (List UInt8) → List (List UInt8)
  | [] => [p]
  | h :: t => (p ++ h) :: t
/-- The parts of a text, at each of a byte. -/
def parts (at' : UInt8) : List UInt8 → List (List UInt8)
  | [] => [[]]
  | c :: r => if c = at' then [] :: parts at' r else ahead [c] (parts at' r)

theorem parts_nil (s : UInt8) : parts s [] = [[]] := rfl
theorem parts_at (s : UInt8) (r : List UInt8) : parts s (s :: r) = [] :: parts s r := by rw [parts, if_pos rfl]
theorem parts_other (s c : UInt8) (r : List UInt8) (h : c ≠ s) : parts s (c :: r) = ahead [c] (parts s r) := by rw [parts, if_neg h]
theorem parts_ne (s : UInt8) (l : List UInt8) : parts s l ≠ [] := by
  cases l with
  | nil => simp [parts_nil]
  | cons c r =>
    by_cases h : c = s
    · subst h; rw [parts_at]; simp
    · rw [parts_other s c r h]; cases parts s r <;> simp [ahead]
theorem ahead_nil (L : List (List UInt8)) (h : L ≠ []) : ahead [] L = L := by cases L with
  | nil => exact absurd rfl h
  | cons a b => rfl
theorem ahead_ahead (p q : List UInt8) (L : List (List UInt8)) (h : L ≠ []) : ahead p (ahead q L) = ahead (p ++ q) L := by
  cases L with
  | nil => exact absurd rfl h
  | cons a b => simp [ahead]
theorem ahead_length (p : List UInt8) (L : List (List UInt8)) (h : L ≠ []) : (ahead p L).length = L.length := by
  cases L with
  | nil => exact absurd rfl h
  | cons a b => rfl
theorem parts_free (s : UInt8) (a : List UInt8) (h : s ∉ a) : parts s a = [a] := by
  induction a with
  | nil => rfl
  | cons c r ih =>
    simp only [List.mem_cons, not_or] at h
    rw [parts_other s c r (fun e => h.1 e.symm), ih h.2]; rfl
theorem parts_append (s : UInt8) (a r : List UInt8) (h : s ∉ a) : parts s (a ++ s :: r) = a :: parts s r := by
  induction a with
  | nil => exact parts_at s r
  | cons c a ih =>
    simp only [List.mem_cons, not_or] at h
    rw [List.cons_append, parts_other s c _ (fun e => h.1 e.symm), ih h.2]; rfl
/-- Text, again. -/
def glue (s : UInt8) : List (List UInt8) → List UInt8
  | [] => []
  | [a] => a
  | a :: b :: r => a ++ s :: glue s (b :: r)
theorem glue_one (s : UInt8) (a : List UInt8) : glue s [a] = a := rfl
theorem glue_more (s : UInt8) (a b : List UInt8) (r : List (List UInt8)) : glue s (a :: b :: r) = a ++ s :: glue s (b :: r) := rfl
theorem glue_cons (s : UInt8) (a : List UInt8) (L : List (List UInt8)) (h : L ≠ []) : glue s (a :: L) = a ++ s :: glue s L := by
  cases L with
  | nil => exact absurd rfl h
  | cons b r => rfl
theorem glue_ahead (s : UInt8) (p : List UInt8) (L : List (List UInt8)) (h : L ≠ []) : glue s (ahead p L) = p ++ glue s L := by
  cases L with
  | nil => exact absurd rfl h
  | cons a r =>
    cases r with
    | nil => rfl
    | cons b r => simp only [ahead, glue_more, List.append_assoc]
theorem glue_parts (s : UInt8) (l : List UInt8) : glue s (parts s l) = l := by
  induction l with
  | nil => rfl
  | cons c r ih =>
    by_cases h : c = s
    · subst h; rw [parts_at, glue_cons _ _ _ (parts_ne c r), ih]; rfl
    · rw [parts_other s c r h, glue_ahead _ _ _ (parts_ne s r), ih]; rfl
theorem parts_mem (s : UInt8) (l p : List UInt8) (h : p ∈ parts s l) : s ∉ p := by
  induction l generalizing p with
  | nil => simp only [parts_nil, List.mem_singleton] at h; subst h; simp
  | cons c r ih =>
    by_cases hc : c = s
    · subst hc
      rw [parts_at, List.mem_cons] at h
      rcases h with h | h
      · subst h; simp
      · exact ih p h
    · rw [parts_other s c r hc] at h
      cases hp : parts s r with
      | nil => exact absurd hp (parts_ne s r)
      | cons a b =>
        rw [hp] at h ih
        simp only [ahead, List.mem_cons] at h
        rcases h with h | h
        · subst h
          have := ih a (by simp)
          simp only [List.cons_append, List.nil_append, List.mem_cons, not_or]
          exact ⟨fun e => hc e.symm, this⟩
        · exact ih p (by simp [h])

/-! ### An address -/
def step (n : Int) (w : List UInt8) : Int := if n < 0 ∨ num w < 0 ∨ 255 < num w then -1 else 256 * n + num w
/-- The address of a text; -1: there is none. -/
def ip (l : List UInt8) : Int := match parts 46 l with
  | [a, b, c, d] => step (step (step (step 0 a) b) c) d
  | _ => -1
def ipText (n : Nat) : List UInt8 := glue 46 [decDigits (n / 16777216), decDigits (n / 65536 % 256), decDigits (n / 256 % 256), decDigits (n % 256)]

theorem dec_free (n : Nat) (c : UInt8) (h : isDig c = false) : c ∉ decDigits n := by
  intro hm
  have := List.all_eq_true.1 (dec_digits n) c hm
  rw [h] at this; cases this

theorem num_byte (k : Nat) (h : k < 256) : num (decDigits k) = k := num_dec k (by omega)
theorem step_byte (n k : Nat) (h : k < 256) : step n (decDigits k) = ((256 * n + k : Nat) : Int) := by
  unfold step
  rw [num_byte k h, if_neg (by omega)]; omega
theorem ipText_parts (n : Nat) : parts 46 (ipText n) = [decDigits (n / 16777216), decDigits (n / 65536 % 256), decDigits (n / 256 % 256), decDigits (n % 256)] := by
  have f : ∀ k, (46 : UInt8) ∉ decDigits k := fun k => dec_free k 46 (by decide)
  unfold ipText
  rw [glue_more, glue_more, glue_more, glue_one, parts_append _ _ _ (f _), parts_append _ _ _ (f _), parts_append _ _ _ (f _), parts_free _ _ (f _)]
theorem ip_text (n : Nat) (h : n < 4294967296) : ip (ipText n) = n := by
  unfold ip
  rw [ipText_parts]
  simp only
  rw [show (0 : Int) = ((0 : Nat) : Int) from rfl, step_byte _ _ (by omega), step_byte _ _ (by omega), step_byte _ _ (by omega), step_byte _ _ (by omega)]
  omega
theorem step_ok {n : Int} {w : List UInt8} (h : 0 ≤ step n w) : 0 ≤ n ∧ 0 ≤ num w ∧ num w ≤ 255 ∧ step n w = 256 * n + num w := by
  unfold step at h ⊢
  split at h
  · omega
  · rename_i hn; rw [if_neg hn]; omega
theorem num_canon {w : List UInt8} (h : 0 ≤ num w) : canon w = true ∧ decDigits (num w).toNat = w := by
  cases hc : canon w with
  | false => rw [num_of_not hc] at h; omega
  | true =>
    refine ⟨rfl, ?_⟩
    obtain ⟨hne, _, hd, h0⟩ := (canon_iff w).1 hc
    rw [num_of_canon hc, Int.toNat_natCast]
    exact dec_val w hne hd h0
theorem ip_cases (l : List UInt8) : ip l = -1 ∨ ∃ a b c d, parts 46 l = [a, b, c, d] ∧ ip l = step (step (step (step 0 a) b) c) d := by
  unfold ip
  split
  · rename_i a b c d h; right; exact ⟨a, b, c, d, h, rfl⟩
  · left; rfl
theorem step_ge (n : Int) (w : List UInt8) : -1 ≤ step n w := by unfold step; split <;> omega
theorem ip_ge (l : List UInt8) : -1 ≤ ip l := by
  rcases ip_cases l with h | ⟨a, b, c, d, _, h⟩
  · omega
  · rw [h]; exact step_ge _ _
theorem ip_fore (l : List UInt8) (h : 0 ≤ ip l) : ip l < 4294967296 ∧ ipText (ip l).toNat = l := by
  rcases ip_cases l with e | ⟨a, b, c, d, hp, e⟩
  · omega
  · rw [e] at h ⊢
    obtain ⟨h3, d0, d1, ed⟩ := step_ok h
    obtain ⟨h2, c0, c1, ec⟩ := step_ok h3
    obtain ⟨h1, b0, b1, eb⟩ := step_ok h2
    obtain ⟨_, a0, a1, ea⟩ := step_ok h1
    rw [ed, ec, eb, ea]
    have ka := (num_canon a0).2; have kb := (num_canon b0).2; have kc := (num_canon c0).2; have kd := (num_canon d0).2
    refine ⟨by omega, ?_⟩
    generalize num a = x at *; generalize num b = y at *; generalize num c = z at *; generalize num d = u at *
    unfold ipText
    rw [show (256 * (256 * (256 * (256 * (0 : Int) + x) + y) + z) + u).toNat / 16777216 = x.toNat by omega,
      show (256 * (256 * (256 * (256 * (0 : Int) + x) + y) + z) + u).toNat / 65536 % 256 = y.toNat by omega,
      show (256 * (256 * (256 * (256 * (0 : Int) + x) + y) + z) + u).toNat / 256 % 256 = z.toNat by omega,
      show (256 * (256 * (256 * (256 * (0 : Int) + x) + y) + z) + u).toNat % 256 = u.toNat by omega, ka, kb, kc, kd, ← hp]
    exact glue_parts 46 l
theorem ip_lt (l : List UInt8) : ip l < 4294967296 := by
  by_cases h : 0 ≤ ip l
  · exact (ip_fore l h).1
  · omega

/-! ### A prefix -/
/-- Is it a prefix? -/
def right (n bits : Int) : Bool := decide (0 ≤ n) && decide (n < 4294967296) && decide (0 ≤ bits) && decide (bits ≤ 32) && decide (n.toNat % 2 ^ (32 - bits.toNat) = 0)
def good (n k : Int) : Bool := decide (0 ≤ n) && decide (0 ≤ k) && decide (k ≤ 32) && right n k
/-- The prefix of a text; -1: there is none. -/
def pre (l : List UInt8) : Int × Int := match parts 47 l with
  | [a, b] => if good (ip a) (num b) then (ip a, num b) else (-1, 0)
  | _ => (-1, 0)
/-- As by the first / alone. -/
def preCut (a b : List UInt8) (ok : Bool) : Int × Int := if ok && good (ip a) (num b) then (ip a, num b) else (-1, 0)
def preText (n k : Nat) : List UInt8 := ipText n ++ 47 :: decDigits k

theorem good_right {n k : Int} (h : right n k = true) : good n k = true := by
  unfold good
  simp only [h, Bool.and_true, Bool.and_eq_true, decide_eq_true_eq]
  unfold right at h
  simp only [Bool.and_eq_true, decide_eq_true_eq] at h
  omega
theorem right_of_good {n k : Int} (h : good n k = true) : right n k = true := by
  unfold good at h; simp only [Bool.and_eq_true] at h; exact h.2
theorem good_num {n k : Int} (h : good n k = true) : 0 ≤ n ∧ 0 ≤ k ∧ k ≤ 32 := by
  unfold good at h; simp only [Bool.and_eq_true, decide_eq_true_eq] at h; omega
theorem num_free (b : List UInt8) (c : UInt8) (hc : isDig c = false) (h : c ∈ b) : num b = -1 := by
  refine num_of_not ?_
  cases hb : canon b with
  | false => rfl
  | true =>
    have := List.all_eq_true.1 ((canon_iff b).1 hb).2.2.1 c h
    rw [hc] at this; cases this
theorem good_bad (n : Int) : good n (-1) = false := by simp [good]
/-- With a /: what is ahead of the first one, and what is behind it. -/
theorem pre_hit (a b : List UInt8) (h : (47 : UInt8) ∉ a) : pre (a ++ 47 :: b) = preCut a b true := by
  unfold pre preCut
  rw [parts_append _ _ _ h, Bool.true_and]
  by_cases hb : (47 : UInt8) ∈ b
  · rw [num_free b 47 (by decide) hb, good_bad]
    simp only [Bool.false_eq_true, if_false]
    cases hp : parts 47 b with
    | nil => rfl
    | cons x y =>
      cases y with
      | nil =>
        exfalso
        have := glue_parts 47 b
        rw [hp, glue_one] at this
        subst this
        exact parts_mem 47 x x (by rw [hp]; simp) hb
      | cons z t => rfl
  · rw [parts_free _ _ hb]
theorem pre_miss (l : List UInt8) (h : (47 : UInt8) ∉ l) : pre l = (-1, 0) := by unfold pre; rw [parts_free _ _ h]
theorem pre_cut_false (a b : List UInt8) : preCut a b false = (-1, 0) := rfl
theorem ipText_free (n : Nat) : (47 : UInt8) ∉ ipText n := by
  have f : ∀ k, (47 : UInt8) ∉ decDigits k := fun k => dec_free k 47 (by decide)
  unfold ipText
  simp only [glue_more, glue_one, List.mem_append, List.mem_cons, f, false_or, or_false]
  decide
theorem pre_text (n k : Nat) (h : right n k = true) : pre (preText n k) = ((n : Int), (k : Int)) := by
  have h2 := good_num (good_right h)
  have h3 : (n : Int) < 4294967296 := by unfold right at h; simp only [Bool.and_eq_true, decide_eq_true_eq] at h; omega
  unfold preText
  rw [pre_hit _ _ (ipText_free n)]
  unfold preCut
  rw [ip_text n (by omega), num_dec k (by omega), good_right h]
  rfl
theorem pre_cases (l : List UInt8) : pre l = (-1, 0) ∨ ∃ a b, parts 47 l = [a, b] ∧ good (ip a) (num b) = true ∧ pre l = (ip a, num b) := by
  unfold pre
  split
  · rename_i a b h
    cases hg : good (ip a) (num b) with
    | false => left; rfl
    | true => right; exact ⟨a, b, h, hg, rfl⟩
  · left; rfl
theorem pre_fore (l : List UInt8) (h : 0 ≤ (pre l).1) : right (pre l).1 (pre l).2 = true ∧ preText (pre l).1.toNat (pre l).2.toNat = l := by
  rcases pre_cases l with e | ⟨a, b, hp, hg, e⟩
  · rw [e] at h; simp at h
  · rw [e]
    obtain ⟨h0, h1, h2⟩ := good_num hg
    refine ⟨right_of_good hg, ?_⟩
    unfold preText
    simp only
    rw [(ip_fore a h0).2, (num_canon h1).2]
    have := glue_parts 47 l
    rw [hp, glue_more, glue_one] at this
    exact this
theorem pre_ge (l : List UInt8) : -1 ≤ (pre l).1 ∧ 0 ≤ (pre l).2 ∧ (pre l).2 ≤ 32 ∧ (pre l).1 < 4294967296 := by
  rcases pre_cases l with e | ⟨a, b, hp, hg, e⟩
  · rw [e]; simp
  · rw [e]
    obtain ⟨h0, h1, h2⟩ := good_num hg
    have := ip_lt a
    simp only; omega
theorem pre_none (l : List UInt8) (h : (pre l).1 < 0) : pre l = (-1, 0) := by
  rcases pre_cases l with e | ⟨a, b, hp, hg, e⟩
  · exact e
  · rw [e] at h; have := (good_num hg).1; simp only at h; omega
end Adr

namespace Adr
/-- Is an address in a prefix? -/
def isIn (n bits ip : Int) : Bool := right n bits && decide (0 ≤ ip) && decide (ip < 4294967296) && decide (ip.toNat / 2 ^ (32 - bits.toNat) = n.toNat / 2 ^ (32 - bits.toNat))
/-- The first bits alone. -/
def cutTo (n b : Nat) : Nat := n / 2 ^ (32 - b) * 2 ^ (32 - b)

theorem right_nat (n b : Nat) : right n b = (decide (n < 4294967296) && decide (b ≤ 32) && decide (n % 2 ^ (32 - b) = 0)) := by
  unfold right
  rw [Bool.eq_iff_iff]
  simp only [Bool.and_eq_true, decide_eq_true_eq, Int.toNat_natCast]
  omega
theorem isIn_nat (n b k : Nat) : isIn n b k = (right n b && decide (k < 4294967296) && decide (k / 2 ^ (32 - b) = n / 2 ^ (32 - b))) := by
  unfold isIn
  rw [Bool.eq_iff_iff]
  simp only [Bool.and_eq_true, decide_eq_true_eq, Int.toNat_natCast]
  constructor
  · rintro ⟨⟨⟨a, _⟩, c⟩, d⟩
    exact ⟨⟨a, by omega⟩, d⟩
  · rintro ⟨⟨a, c⟩, d⟩
    exact ⟨⟨⟨a, by omega⟩, by omega⟩, d⟩
theorem cutTo_le (n b : Nat) : cutTo n b ≤ n := Nat.div_mul_le_self _ _
theorem cutTo_div (n b : Nat) : cutTo n b / 2 ^ (32 - b) = n / 2 ^ (32 - b) := Nat.mul_div_cancel _ (Nat.pow_pos (by decide))
theorem cutTo_mod (n b : Nat) : cutTo n b % 2 ^ (32 - b) = 0 := Nat.mul_mod_left _ _
theorem right_cut (n b : Nat) (hn : n < 4294967296) (hb : b ≤ 32) : right (cutTo n b) b = true := by
  rw [right_nat]
  simp only [Bool.and_eq_true, decide_eq_true_eq]
  exact ⟨⟨Nat.lt_of_le_of_lt (cutTo_le n b) hn, hb⟩, cutTo_mod n b⟩
theorem in_cut (n b k : Nat) (hn : n < 4294967296) (hb : b ≤ 32) (hk : k < 4294967296) : isIn (cutTo n b) b k = decide (k / 2 ^ (32 - b) = n / 2 ^ (32 - b)) := by
  rw [isIn_nat, right_cut n b hn hb, cutTo_div]
  simp [hk]
theorem in_self (n b : Nat) (hn : n < 4294967296) (hb : b ≤ 32) : isIn (cutTo n b) b n = true := by
  rw [in_cut n b n hn hb hn]; simp
theorem in_shorter (n b c k : Nat) (hn : n < 4294967296) (hb : b ≤ 32) (hc : c ≤ b) (hk : k < 4294967296) (h : isIn (cutTo n b) b k = true) : isIn (cutTo n c) c k = true := by
  rw [in_cut n b k hn hb hk] at h
  rw [in_cut n c k hn (by omega) hk]
  simp only [decide_eq_true_eq] at h ⊢
  have e : 2 ^ (32 - c) = 2 ^ (32 - b) * 2 ^ (b - c) := by rw [← Nat.pow_add, show 32 - b + (b - c) = 32 - c by omega]
  rw [e, ← Nat.div_div_eq_div_mul, ← Nat.div_div_eq_div_mul, h]
theorem in_all (k : Nat) (hk : k < 4294967296) : isIn 0 0 k = true := by
  have : isIn ((0 : Nat) : Int) ((0 : Nat) : Int) k = true := by
    rw [isIn_nat, right_nat]
    simp only [Bool.and_eq_true, decide_eq_true_eq]
    refine ⟨⟨⟨⟨by omega, by omega⟩, by simp⟩, hk⟩, ?_⟩
    rw [Nat.div_eq_of_lt (by simpa using hk)]
  simpa using this

/-- The second half of a prefix. -/
def half (n b : Nat) : Nat := cutTo n b + 2 ^ (31 - b)
theorem half_plain (n m r : Nat) (hm : 0 < m) (hr : 2 * m * r = 4294967296) (hn : n < 4294967296) :
    n / (2 * m) * (2 * m) + m < 4294967296 ∧ (n / (2 * m) * (2 * m) + m) % m = 0 ∧ (n / (2 * m) * (2 * m) + m) / (2 * m) = n / (2 * m) ∧ (n / (2 * m) * (2 * m) + m) / m = 2 * (n / (2 * m)) + 1 ∧
    n / (2 * m) * (2 * m) / m = 2 * (n / (2 * m)) ∧ n / (2 * m) * (2 * m) % m = 0 ∧ (n / m = 2 * (n / (2 * m)) ∨ n / m = 2 * (n / (2 * m)) + 1) := by
  have q0 : n / (2 * m) = n / m / 2 := by rw [Nat.mul_comm, Nat.div_div_eq_div_mul]
  have hle : n / (2 * m) * (2 * m) ≤ n := Nat.div_mul_le_self _ _
  have hy : n / (2 * m) < r := Nat.div_lt_of_lt_mul (by omega)
  have hb : (2 * m) * (n / (2 * m) + 1) ≤ (2 * m) * r := Nat.mul_le_mul_left _ hy
  rw [Nat.mul_add, Nat.mul_one] at hb
  have hc : (2 * m) * (n / (2 * m)) = n / (2 * m) * (2 * m) := Nat.mul_comm _ _
  have hd : n / m = 2 * (n / (2 * m)) ∨ n / m = 2 * (n / (2 * m)) + 1 := by omega
  generalize n / (2 * m) = y at *
  have f1 : y * (2 * m) = m * (2 * y) := by rw [Nat.mul_comm y, Nat.mul_assoc, Nat.mul_comm m, ← Nat.mul_assoc, Nat.mul_comm]
  have f2 : y * (2 * m) + m = m * (2 * y + 1) := by rw [Nat.mul_add, Nat.mul_one, f1]
  refine ⟨by omega, ?_, ?_, ?_, ?_, ?_, hd⟩
  · rw [f2]; exact Nat.mul_mod_right _ _
  · rw [Nat.add_comm, Nat.add_mul_div_right _ _ (by omega), Nat.div_eq_of_lt (by omega), Nat.zero_add]
  · rw [f2]; exact Nat.mul_div_cancel_left _ hm
  · rw [f1]; exact Nat.mul_div_cancel_left _ hm
  · rw [f1]; exact Nat.mul_mod_right _ _
theorem half_all (n b : Nat) (hn : n < 4294967296) (hb : b < 32) : right (half n b) (b + 1 : Nat) = true ∧ isIn (cutTo n b) b (half n b) = true ∧ isIn (cutTo n b) (b + 1 : Nat) n ≠ isIn (half n b) (b + 1 : Nat) n := by
  have e : 2 ^ (32 - b) = 2 * 2 ^ (31 - b) := by rw [show 32 - b = (31 - b) + 1 by omega, Nat.pow_succ, Nat.mul_comm]
  have e2 : 32 - (b + 1) = 31 - b := by omega
  have e3 : 2 * 2 ^ (31 - b) * 2 ^ b = 4294967296 := by rw [← e, ← Nat.pow_add, show 32 - b + b = 32 by omega]
  have hp : 0 < 2 ^ (31 - b) := Nat.pow_pos (by decide)
  obtain ⟨h1, h2, h3, h4, h5, h6, h7⟩ := half_plain n (2 ^ (31 - b)) (2 ^ b) hp e3 hn
  have hc := in_cut n b (half n b) hn (by omega)
  have hle := cutTo_le n b
  unfold half at hc ⊢
  unfold cutTo at hc hle ⊢
  rw [e] at hc hle ⊢
  rw [hc h1]
  rw [isIn_nat, isIn_nat, right_nat, right_nat, e2, h2, h3, h4, h5, h6]
  refine ⟨by simp [h1]; omega, by simp, ?_⟩
  have a1 : decide (n / (2 * 2 ^ (31 - b)) * (2 * 2 ^ (31 - b)) < 4294967296) = true := by simp; omega
  have a2 : decide (b + 1 ≤ 32) = true := by simp; omega
  have a3 : decide (n < 4294967296) = true := by simp [hn]
  have a4 : decide (n / (2 * 2 ^ (31 - b)) * (2 * 2 ^ (31 - b)) + 2 ^ (31 - b) < 4294967296) = true := by simp [h1]
  rw [a1, a2, a3, a4]
  simp only [decide_true, Bool.and_true, Bool.true_and]
  rcases h7 with h | h
  · rw [h]; simp
  · rw [h]; simp
end Adr

namespace Adr
open Go Go.RowKit

theorem ofInt_i64 (a : Nat) (ha : a < 18446744073709551616) : (BitVec.ofInt 64 (a : Int)).toNat = a := by
  rw [BitVec.ofInt_natCast, BitVec.toNat_ofNat]; exact Nat.mod_eq_of_lt (by omega)
theorem wrap_nat (a : Nat) (ha : a < 9223372036854775808) : IntKind.i64.wrap (a : Int) = a := IntWalk.i64_in _ (by omega)
theorem and_nat (a b : Nat) (ha : a < 9223372036854775808) (hb : b < 9223372036854775808) : bits .and .i64 (a : Int) (b : Int) = ((a &&& b : Nat) : Int) := by
  have hx : a &&& b ≤ a := Nat.and_le_left
  show IntKind.i64.wrap ((BitVec.ofInt 64 (a : Int) &&& BitVec.ofInt 64 (b : Int)).toNat : Int) = _
  rw [BitVec.toNat_and, ofInt_i64 a (by omega), ofInt_i64 b (by omega), wrap_nat _ (by omega)]
theorem andNot_nat (a b : Nat) (ha : a < 9223372036854775808) (hb : b < 9223372036854775808) : bits .andNot .i64 (a : Int) (b : Int) = ((a &&& (18446744073709551615 - b) : Nat) : Int) := by
  have hx : a &&& (18446744073709551615 - b) ≤ a := Nat.and_le_left
  show IntKind.i64.wrap ((BitVec.ofInt 64 (a : Int) &&& ~~~BitVec.ofInt 64 (b : Int)).toNat : Int) = _
  rw [BitVec.toNat_and, BitVec.toNat_not, ofInt_i64 a (by omega), ofInt_i64 b (by omega)]
  have e : 2 ^ 64 - 1 - b = 18446744073709551615 - b := by omega
  rw [e, wrap_nat _ (by omega)]

/-- The bits behind the first ones. -/
def restV (n : Int) : Int := ((2 ^ (32 - n.toNat) - 1 : Nat) : Int)
theorem pow_le (k : Nat) (h : k ≤ 32) : 1 ≤ 2 ^ k ∧ 2 ^ k ≤ 4294967296 := by
  refine ⟨Nat.one_le_pow _ _ (by decide), ?_⟩
  have := Nat.pow_le_pow_right (n := 2) (by decide) h
  simpa using this
theorem rest_bd (n : Int) (h0 : 0 ≤ n) (h : n ≤ 32) : 0 ≤ restV n ∧ restV n < 4294967296 := by
  have := pow_le (32 - n.toNat) (by omega)
  unfold restV; omega
theorem rest_val (n : Int) (h0 : 0 ≤ n) (h : n ≤ 32) : wrap64 (wrap64 (2 ^ (32 - n).toNat) - 1) = restV n := by
  obtain ⟨k, rfl⟩ := Int.eq_ofNat_of_zero_le h0
  have hp := pow_le (32 - k) (by omega)
  have e1 : (32 - (k : Int)).toNat = 32 - k := by omega
  have e2 : ((2 : Int) ^ (32 - k)) = ((2 ^ (32 - k) : Nat) : Int) := by simp
  rw [e1, e2]
  unfold restV
  rw [Int.toNat_natCast]
  generalize 2 ^ (32 - k) = m at *
  have e3 : wrap64 (m : Int) = m := IntWalk.wrap64_in _ (by omega)
  rw [e3, IntWalk.wrap64_in _ (by omega)]
  omega
theorem and_rest (n b : Int) (h0 : 0 ≤ n) (h1 : n < 4294967296) (hb0 : 0 ≤ b) (hb : b ≤ 32) : bits .and .i64 n (restV b) = ((n.toNat % 2 ^ (32 - b.toNat) : Nat) : Int) := by
  obtain ⟨a, rfl⟩ := Int.eq_ofNat_of_zero_le h0
  have hp := pow_le (32 - b.toNat) (by omega)
  unfold restV
  rw [and_nat a _ (by omega) (by omega), Nat.and_two_pow_sub_one_eq_mod, Int.toNat_natCast]
theorem andNot_rest (n b : Int) (h0 : 0 ≤ n) (h1 : n < 4294967296) (hb0 : 0 ≤ b) (hb : b ≤ 32) : bits .andNot .i64 n (restV b) = ((n.toNat / 2 ^ (32 - b.toNat) * 2 ^ (32 - b.toNat) : Nat) : Int) := by
  obtain ⟨a, rfl⟩ := Int.eq_ofNat_of_zero_le h0
  have hp := pow_le (32 - b.toNat) (by omega)
  have hk : 32 - b.toNat ≤ 64 := by omega
  unfold restV
  rw [andNot_nat a _ (by omega) (by omega), Int.toNat_natCast]
  have e : 18446744073709551615 - (2 ^ (32 - b.toNat) - 1) = 2 ^ 64 - 2 ^ (32 - b.toNat) := by omega
  rw [e, nat_midmask 64 _ a hk, Nat.mod_eq_of_lt (by omega)]
theorem right_bits (n b : Int) (h0 : 0 ≤ n) (h1 : n < 4294967296) (hb0 : 0 ≤ b) (hb : b ≤ 32) : (bits .and .i64 n (restV b) == 0) = right n b := by
  rw [and_rest n b h0 h1 hb0 hb, Bool.eq_iff_iff]
  unfold right
  simp only [beq_iff_eq, Bool.and_eq_true, decide_eq_true_eq]
  omega
theorem right_not {n b : Int} (h : ¬ (0 ≤ n ∧ n < 4294967296 ∧ 0 ≤ b ∧ b ≤ 32)) : right n b = false := by
  unfold right
  rw [Bool.eq_false_iff]
  simp only [ne_eq, Bool.and_eq_true, decide_eq_true_eq]
  omega
theorem right_bd {n b : Int} (h : right n b = true) : 0 ≤ n ∧ n < 4294967296 ∧ 0 ≤ b ∧ b ≤ 32 ∧ n.toNat % 2 ^ (32 - b.toNat) = 0 := by
  unfold right at h
  simp only [Bool.and_eq_true, decide_eq_true_eq] at h
  omega
theorem in_bits (n b ip : Int) (hr : right n b = true) (h0 : 0 ≤ ip) (h1 : ip < 4294967296) : (bits .andNot .i64 ip (restV b) == n) = isIn n b ip := by
  obtain ⟨n0, n1, b0, b1, hm⟩ := right_bd hr
  rw [andNot_rest ip b h0 h1 b0 b1, Bool.eq_iff_iff]
  unfold isIn
  rw [hr]
  simp only [beq_iff_eq, Bool.and_eq_true, decide_eq_true_eq, Bool.true_and]
  obtain ⟨a, rfl⟩ := Int.eq_ofNat_of_zero_le n0
  rw [Int.toNat_natCast] at hm ⊢
  have hp := pow_le (32 - b.toNat) (by omega)
  have hd := Nat.div_add_mod a (2 ^ (32 - b.toNat))
  generalize 2 ^ (32 - b.toNat) = m at *
  rw [hm, Nat.add_zero] at hd
  constructor
  · intro h
    refine ⟨⟨h0, h1⟩, ?_⟩
    have : ip.toNat / m * m = a := by omega
    rw [← this, Nat.mul_div_cancel _ (by omega)]
  · rintro ⟨_, h⟩
    rw [h, Nat.mul_comm]; omega
/-- A power of two, as a number of the walk's. -/
def pw (n : Int) : Int := ((2 ^ n.toNat : Nat) : Int)
theorem pw_bd (k : Nat) (h : k ≤ 32) : 1 ≤ pw k ∧ pw k ≤ 4294967296 := by
  have := pow_le k h
  unfold pw; rw [Int.toNat_natCast]; omega
theorem pw_bd' (k : Int) (h0 : 0 ≤ k) (h : k ≤ 32) : 1 ≤ pw k ∧ pw k ≤ 4294967296 := by
  obtain ⟨m, rfl⟩ := Int.eq_ofNat_of_zero_le h0
  exact pw_bd m (by omega)
theorem pw_succ (k : Nat) : pw ((k + 1 : Nat) : Int) = 2 * pw k := by
  unfold pw; rw [Int.toNat_natCast, Int.toNat_natCast, Nat.pow_succ]; omega
theorem pw_nat (b : Int) (hb0 : 0 ≤ b) (hb : b ≤ 32) : pw (32 - b) = ((2 ^ (32 - b.toNat) : Nat) : Int) := by
  unfold pw; rw [show (32 - b).toNat = 32 - b.toNat by omega]
theorem right_pw (n b : Int) (h0 : 0 ≤ n) (h1 : n < 4294967296) (hb0 : 0 ≤ b) (hb : b ≤ 32) : (n % pw (32 - b) == 0) = right n b := by
  obtain ⟨a, rfl⟩ := Int.eq_ofNat_of_zero_le h0
  rw [pw_nat b hb0 hb, Bool.eq_iff_iff]
  unfold right
  simp only [beq_iff_eq, Bool.and_eq_true, decide_eq_true_eq, Int.toNat_natCast]
  generalize 2 ^ (32 - b.toNat) = m
  rw [← Int.natCast_emod]
  omega
theorem isIn_not {n b ip : Int} (h : ¬ (right n b = true ∧ 0 ≤ ip ∧ ip < 4294967296)) : isIn n b ip = false := by
  unfold isIn
  rw [Bool.eq_false_iff]
  simp only [ne_eq, Bool.and_eq_true, decide_eq_true_eq]
  rintro ⟨⟨⟨a, c⟩, d⟩, _⟩
  exact h ⟨a, c, d⟩
end Adr

namespace Adr
open Go.Lib

theorem index_nil (c : UInt8) : index [] [c] = -1 := rfl
theorem index_eq (c : UInt8) (l : List UInt8) : index (c :: l) [c] = 0 := by
  rw [index, if_pos (by simp)]
theorem index_other (b c : UInt8) (l : List UInt8) (h : b ≠ c) : index (b :: l) [c] = if index l [c] == -1 then -1 else index l [c] + 1 := by
  rw [index, if_neg]
  simp only [List.isPrefixOf_cons_cons, Bool.and_eq_true, beq_iff_eq, not_and]
  intro e; exact absurd e.symm h
theorem index_miss (c : UInt8) (l : List UInt8) (h : c ∉ l) : index l [c] = -1 := by
  induction l with
  | nil => rfl
  | cons b r ih =>
    simp only [List.mem_cons, not_or] at h
    rw [index_other b c r (fun e => h.1 e.symm), ih h.2]; rfl
theorem index_at (c : UInt8) (a r : List UInt8) (h : c ∉ a) : index (a ++ c :: r) [c] = a.length := by
  induction a with
  | nil => exact index_eq c r
  | cons b a ih =>
    simp only [List.mem_cons, not_or] at h
    rw [List.cons_append, index_other b c _ (fun e => h.1 e.symm), ih h.2, if_neg (by simp)]
    simp
/-- A text that has the byte, at its first place. -/
theorem first_at (c : UInt8) (l : List UInt8) (h : c ∈ l) : ∃ a r, l = a ++ c :: r ∧ c ∉ a := by
  induction l with
  | nil => simp at h
  | cons b l ih =>
    by_cases e : b = c
    · subst e; exact ⟨[], l, rfl, by simp⟩
    · simp only [List.mem_cons] at h
      obtain ⟨a, r, hl, ha⟩ := ih (h.resolve_left fun x => e x.symm)
      refine ⟨b :: a, r, by rw [hl]; rfl, ?_⟩
      simp only [List.mem_cons, not_or]
      exact ⟨fun x => e x.symm, ha⟩
theorem take_at (c : UInt8) (a r : List UInt8) : (a ++ c :: r).take a.length = a := by simp
theorem drop_at (c : UInt8) (a r : List UInt8) : (a ++ c :: r).drop (a.length + 1) = r := by
  rw [← List.drop_drop]; simp

theorem cut_at (c : UInt8) (a r : List UInt8) (h : c ∉ a) : cut (a ++ c :: r) [c] = (a, r, true) := by
  unfold cut
  rw [index_at c a r h, if_pos (by omega), Int.toNat_natCast, take_at, show [c].length = 1 from rfl, drop_at]
theorem cut_miss (c : UInt8) (l : List UInt8) (h : c ∉ l) : cut l [c] = (l, [], false) := by
  unfold cut
  rw [index_miss c l h, if_neg (by omega)]

theorem count_free (c : UInt8) (l : List UInt8) (h : c ∉ l) : count l [c] = 0 := by
  rw [count_one]; exact List.count_eq_zero.2 h
theorem count_at (c : UInt8) (a r : List UInt8) (h : c ∉ a) : count (a ++ c :: r) [c] = count r [c] + 1 := by
  rw [count_one, count_one, List.count_append, List.count_eq_zero.2 h, List.count_cons_self]; omega
theorem splitK_at (c : UInt8) (k : Nat) (a r : List UInt8) (h : c ∉ a) : splitK [c] 0 (k + 1) (a ++ c :: r) = a :: splitK [c] 0 k r := by
  have e := index_at c a r h
  rw [splitK, e, if_neg (by simp), Int.toNat_natCast, Nat.add_zero, take_at, show [c].length = 1 from rfl, drop_at]
theorem split_parts (c : UInt8) (l : List UInt8) : split l [c] = parts c l := by
  suffices h : ∀ (k : Nat) (l : List UInt8), l.length ≤ k → splitK [c] 0 (count l [c]) l = parts c l from h _ l (Nat.le_refl _)
  intro k
  induction k with
  | zero =>
    intro l hl
    have : l = [] := List.length_eq_zero_iff.1 (by omega)
    subst this
    rw [count_free c [] (by simp)]; rfl
  | succ k ih =>
    intro l hl
    by_cases hc : c ∈ l
    · obtain ⟨a, r, rfl, ha⟩ := first_at c l hc
      rw [count_at c a r ha, splitK_at c _ a r ha, parts_append c a r ha, ih r (by simp at hl; omega)]
    · rw [count_free c l hc, parts_free c l hc]; rfl
theorem replaceK_at (c : UInt8) (k : Nat) (a r : List UInt8) (h : c ∉ a) : replaceK [c] [] (k + 1) (a ++ c :: r) = a ++ replaceK [c] [] k r := by
  have e := index_at c a r h
  rw [replaceK, e, if_neg (by simp), Int.toNat_natCast, take_at, show [c].length = 1 from rfl, drop_at, List.append_nil]
theorem filter_free (c : UInt8) (a : List UInt8) (h : c ∉ a) : a.filter (· != c) = a := by
  rw [List.filter_eq_self]
  intro b hb
  simp only [bne_iff_ne, ne_eq]
  rintro rfl; exact h hb
theorem replace_filter (c : UInt8) (l : List UInt8) : replaceAll l [c] [] = l.filter (· != c) := by
  suffices h : ∀ (k : Nat) (l : List UInt8), l.length ≤ k → replaceK [c] [] (count l [c]) l = l.filter (· != c) by
    unfold replaceAll replace
    rw [if_neg (by simp)]
    unfold replaceNum
    rw [if_pos (Or.inl (by decide))]
    exact h _ l (Nat.le_refl _)
  intro k
  induction k with
  | zero =>
    intro l hl
    have : l = [] := List.length_eq_zero_iff.1 (by omega)
    subst this
    rw [count_free c [] (by simp)]; rfl
  | succ k ih =>
    intro l hl
    by_cases hc : c ∈ l
    · obtain ⟨a, r, rfl, ha⟩ := first_at c l hc
      rw [count_at c a r ha, replaceK_at c _ a r ha, ih r (by simp at hl; omega), List.filter_append, filter_free c a ha]
      simp
    · rw [count_free c l hc, filter_free c l hc]; rfl
theorem join_glue (c : UInt8) (L : List (List UInt8)) : join L [c] = glue c L := by
  unfold join
  induction L with
  | nil => rfl
  | cons a r ih =>
    cases r with
    | nil => simp [glue, List.intercalate]
    | cons b r =>
      rw [glue_more, ← ih]
      simp [List.intercalate, List.intersperse]
end Adr

namespace Adr
open Go.Lib

/-- A digit of base 16, as it is written. -/
def hexd (k : Nat) : UInt8 := UInt8.ofNat (if k < 10 then 48 + k else 87 + k)
/-- The reference's value of a digit; -1: it is none. -/
def hv (c : UInt8) : Int := if 48 ≤ c.toNat ∧ c.toNat ≤ 57 then (c.toNat : Int) - 48 else if 97 ≤ c.toNat ∧ c.toNat ≤ 102 then (c.toNat : Int) - 97 + 10 else -1
def mac2 (k : Nat) : List UInt8 := [hexd (k / 16), hexd (k % 16)]
def macText (n : Nat) : List UInt8 := glue 58 [mac2 (n / 1099511627776 % 256), mac2 (n / 4294967296 % 256), mac2 (n / 16777216 % 256), mac2 (n / 65536 % 256), mac2 (n / 256 % 256), mac2 (n % 256)]
def mstep (n : Int) (w : List UInt8) : Int := match w with
  | [x, y] => if n < 0 ∨ hv x < 0 ∨ hv y < 0 then -1 else 256 * n + 16 * hv x + hv y
  | _ => -1
/-- The hardware address of a text; -1: there is none. -/
def mac (l : List UInt8) : Int := match parts 58 l with
  | [a, b, c, d, e, f] => mstep (mstep (mstep (mstep (mstep (mstep 0 a) b) c) d) e) f
  | _ => -1

theorem hexd_nat {k : Nat} (h : k < 16) : (hexd k).toNat = if k < 10 then 48 + k else 87 + k := by
  unfold hexd; split <;> simp <;> omega
theorem hv_hexd {k : Nat} (h : k < 16) : hv (hexd k) = k := by
  unfold hv
  rw [hexd_nat h]
  split
  · rw [if_pos (by omega)]; omega
  · rw [if_neg (by omega), if_pos (by omega)]; omega
theorem hexd_hv {c : UInt8} (h : 0 ≤ hv c) : hv c < 16 ∧ hexd (hv c).toNat = c := by
  unfold hv at h ⊢
  split
  · rename_i h1
    refine ⟨by omega, UInt8.toNat_inj.1 ?_⟩
    rw [hexd_nat (by omega), if_pos (by omega)]; omega
  · rename_i h1
    rw [if_neg h1] at h
    split
    · rename_i h2
      refine ⟨by omega, UInt8.toNat_inj.1 ?_⟩
      rw [hexd_nat (by omega), if_neg (by omega)]; omega
    · rename_i h2; rw [if_neg h2] at h; omega
theorem hexd_free {k : Nat} (h : k < 16) : (58 : UInt8) ≠ hexd k := by
  intro e
  have := congrArg UInt8.toNat e
  rw [hexd_nat h] at this
  simp at this
  split at this <;> omega
theorem mac2_free {k : Nat} (h : k < 256) : (58 : UInt8) ∉ mac2 k := by
  unfold mac2
  simp only [List.mem_cons, List.not_mem_nil, or_false, not_or]
  exact ⟨hexd_free (by omega), hexd_free (by omega)⟩
theorem mstep_mac2 (n k : Nat) (h : k < 256) : mstep n (mac2 k) = ((256 * n + k : Nat) : Int) := by
  unfold mac2 mstep
  simp only
  rw [hv_hexd (show k / 16 < 16 by omega), hv_hexd (show k % 16 < 16 by omega), if_neg (by omega)]
  omega
theorem macText_parts (n : Nat) : parts 58 (macText n) = [mac2 (n / 1099511627776 % 256), mac2 (n / 4294967296 % 256), mac2 (n / 16777216 % 256), mac2 (n / 65536 % 256), mac2 (n / 256 % 256), mac2 (n % 256)] := by
  have f : ∀ k, (58 : UInt8) ∉ mac2 (k % 256) := fun k => mac2_free (Nat.mod_lt _ (by decide))
  unfold macText
  rw [glue_more, glue_more, glue_more, glue_more, glue_more, glue_one, parts_append _ _ _ (f _), parts_append _ _ _ (f _), parts_append _ _ _ (f _), parts_append _ _ _ (f _), parts_append _ _ _ (f _), parts_free _ _ (f _)]
theorem mac_text (n : Nat) (h : n < 281474976710656) : mac (macText n) = n := by
  unfold mac
  rw [macText_parts]
  simp only
  rw [show (0 : Int) = ((0 : Nat) : Int) from rfl, mstep_mac2 _ _ (by omega), mstep_mac2 _ _ (by omega), mstep_mac2 _ _ (by omega), mstep_mac2 _ _ (by omega), mstep_mac2 _ _ (by omega), mstep_mac2 _ _ (by omega)]
  omega
theorem mstep_ok {n : Int} {w : List UInt8} (h : 0 ≤ mstep n w) : 0 ≤ n ∧ ∃ k : Nat, k < 256 ∧ w = mac2 k ∧ mstep n w = 256 * n + k := by
  unfold mstep at h ⊢
  split at h
  · rename_i x y
    split at h
    · omega
    · rename_i hn
      have hx := hexd_hv (c := x) (by omega)
      have hy := hexd_hv (c := y) (by omega)
      refine ⟨by omega, (16 * hv x + hv y).toNat, by omega, ?_, ?_⟩
      · unfold mac2
        rw [show (16 * hv x + hv y).toNat / 16 = (hv x).toNat by omega, show (16 * hv x + hv y).toNat % 16 = (hv y).toNat by omega, hx.2, hy.2]
      · rw [if_neg hn]; omega
  · omega
theorem mac_cases (l : List UInt8) : mac l = -1 ∨ ∃ a b c d e f, parts 58 l = [a, b, c, d, e, f] ∧ mac l = mstep (mstep (mstep (mstep (mstep (mstep 0 a) b) c) d) e) f := by
  unfold mac
  split
  · rename_i a b c d e f h; right; exact ⟨a, b, c, d, e, f, h, rfl⟩
  · left; rfl
theorem mac_fore (l : List UInt8) (h : 0 ≤ mac l) : mac l < 281474976710656 ∧ macText (mac l).toNat = l := by
  rcases mac_cases l with e | ⟨a, b, c, d, e', f, hp, e⟩
  · omega
  · rw [e] at h ⊢
    obtain ⟨h5, kf, f1, ef, gf⟩ := mstep_ok h
    obtain ⟨h4, ke, e1, ee, ge⟩ := mstep_ok h5
    obtain ⟨h3, kd, d1, ed, gd⟩ := mstep_ok h4
    obtain ⟨h2, kc, c1, ec, gc⟩ := mstep_ok h3
    obtain ⟨h1, kb, b1, eb, gb⟩ := mstep_ok h2
    obtain ⟨_, ka, a1, ea, ga⟩ := mstep_ok h1
    rw [gf, ge, gd, gc, gb, ga]
    refine ⟨by omega, ?_⟩
    unfold macText
    generalize hN : (256 * (256 * (256 * (256 * (256 * (256 * (0 : Int) + ka) + kb) + kc) + kd) + ke) + kf).toNat = N
    rw [show N / 1099511627776 % 256 = ka by omega, show N / 4294967296 % 256 = kb by omega, show N / 16777216 % 256 = kc by omega, show N / 65536 % 256 = kd by omega, show N / 256 % 256 = ke by omega, show N % 256 = kf by omega, ← ea, ← eb, ← ec, ← ed, ← ee, ← ef, ← hp]
    exact glue_parts 58 l
theorem mac_ge (l : List UInt8) : -1 ≤ mac l := by
  rcases mac_cases l with h | ⟨a, b, c, d, e, f, _, h⟩
  · omega
  · rw [h]
    generalize mstep (mstep (mstep (mstep (mstep 0 a) b) c) d) e = n
    unfold mstep
    split
    · split <;> omega
    · omega

/-! ### As the program reads it: all digits of base 16, without the colons -/
/-- The value of a digit of base 36, as strconv has it; 255: it is none. -/
def dig36 (c : UInt8) : Nat := if 48 ≤ c.toNat ∧ c.toNat ≤ 57 then c.toNat - 48 else if 97 ≤ (c ||| 32).toNat ∧ (c ||| 32).toNat ≤ 122 then (c ||| 32).toNat - 97 + 10 else 255
/-- ParseUint at base 16 and 48 bits, behind its test for the empty text: a number; 'some none': out of range; 'none': no numeral. -/
def parse16 (acc : Nat) : List UInt8 → Option (Option Nat)
  | [] => some (some acc)
  | c :: r => if 16 ≤ dig36 c then none else if 281474976710656 ≤ acc * 16 + dig36 c then some none else parse16 (acc * 16 + dig36 c) r
def parseMac (l : List UInt8) : Option (Option Nat) := if l = [] then none else parse16 0 l
/-- The hardware address, as the program says it. -/
def macP (l : List UInt8) : Int := match parseMac (replaceAll l [58] []) with
  | some (some n) => if macText n = l then (n : Int) else -1
  | _ => -1

theorem parse16_lt : ∀ (l : List UInt8) (acc u : Nat), acc < 281474976710656 → parse16 acc l = some (some u) → u < 281474976710656
  | [], acc, u, ha, h => by
    rw [parse16] at h
    injection h with h
    injection h with h
    omega
  | c :: r, acc, u, ha, h => by
    rw [parse16] at h
    by_cases h1 : 16 ≤ dig36 c
    · rw [if_pos h1] at h; cases h
    · rw [if_neg h1] at h
      by_cases h2 : 281474976710656 ≤ acc * 16 + dig36 c
      · rw [if_pos h2] at h; cases h
      · rw [if_neg h2] at h
        exact parse16_lt r _ u (by omega) h
theorem parseMac_lt {l : List UInt8} {u : Nat} (h : parseMac l = some (some u)) : u < 281474976710656 := by
  unfold parseMac at h
  split at h
  · cases h
  · exact parse16_lt l 0 u (by decide) h
theorem or32 : ∀ k : Fin 16, dig36 (hexd k.val) = k.val := by decide +kernel
theorem dig_hexd {k : Nat} (h : k < 16) : dig36 (hexd k) = k := or32 ⟨k, h⟩
theorem parse_two (acc k : Nat) (r : List UInt8) (hk : k < 256) (ha : acc * 256 + k < 281474976710656) : parse16 acc (mac2 k ++ r) = parse16 (acc * 256 + k) r := by
  unfold mac2
  rw [List.cons_append, List.cons_append, List.nil_append, parse16, dig_hexd (show k / 16 < 16 by omega), if_neg (by omega), if_neg (by omega), parse16, dig_hexd (show k % 16 < 16 by omega), if_neg (by omega), if_neg (by omega)]
  congr 1; omega
theorem mac2_filter {k : Nat} (h : k < 256) : (mac2 k).filter (· != 58) = mac2 k := filter_free 58 _ (mac2_free h)
theorem filter_glue (L : List (List UInt8)) (h : ∀ p ∈ L, (58 : UInt8) ∉ p) : (glue 58 L).filter (· != 58) = L.flatten := by
  induction L with
  | nil => rfl
  | cons a r ih =>
    cases r with
    | nil => rw [glue_one, filter_free 58 a (h a (by simp))]; simp
    | cons b r =>
      rw [glue_more, List.filter_append, filter_free 58 a (h a (by simp)), List.filter_cons_of_neg (by simp), ih (fun p hp => h p (by simp only [List.mem_cons] at hp ⊢; exact Or.inr hp))]
      simp
theorem parse_macText (n : Nat) (h : n < 281474976710656) : parseMac (replaceAll (macText n) [58] []) = some (some n) := by
  have f : ∀ k, (58 : UInt8) ∉ mac2 (k % 256) := fun k => mac2_free (Nat.mod_lt _ (by decide))
  rw [replace_filter]
  unfold macText
  rw [filter_glue _ (by
    intro p hp
    simp only [List.mem_cons, List.not_mem_nil, or_false] at hp
    rcases hp with rfl | rfl | rfl | rfl | rfl | rfl <;> exact f _)]
  simp only [List.flatten_cons, List.flatten_nil]
  unfold parseMac
  rw [if_neg (by simp [mac2]), parse_two _ _ _ (by omega) (by omega), parse_two _ _ _ (by omega) (by omega), parse_two _ _ _ (by omega) (by omega), parse_two _ _ _ (by omega) (by omega), parse_two _ _ _ (by omega) (by omega), parse_two _ _ _ (by omega) (by omega), parse16]
  congr 2; omega
theorem macP_eq (l : List UInt8) : macP l = mac l := by
  unfold macP
  by_cases h : 0 ≤ mac l
  · obtain ⟨h1, h2⟩ := mac_fore l h
    have := parse_macText (mac l).toNat (by omega)
    rw [h2] at this
    rw [this]
    simp only
    rw [if_pos h2]; omega
  · have hm : mac l = -1 := by have := mac_ge l; omega
    rw [hm]
    split
    · rename_i n hn
      by_cases e : macText n = l
      · exfalso
        have := mac_text n (parseMac_lt hn)
        rw [e] at this; omega
      · rw [if_neg e]
    · rfl
end Adr

namespace Go.Proofs.YtmhgacgneckboaaGreatDoor
open Go.RowKit

theorem ret_int {k : IntKind} {a b : Int} (h : a = b) : Ending.returned (.int k a) = .returned (.int k b) := by rw [h]
theorem ret_bool {a b : Bool} (h : a = b) : Ending.returned (.bool a) = .returned (.bool b) := by rw [h]
theorem ret_str {a b : ByteArray} (h : a = b) : Ending.returned (.string a) = .returned (.string b) := by rw [h]

end Go.Proofs.YtmhgacgneckboaaGreatDoor
