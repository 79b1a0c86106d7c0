/- Plain facts: digits in cells, as numbers; shifting them to the left. Walks: the library's decimals: trim, the look at the cheat. A walk: does the row of digits stand ahead of the cheat's text? Plain facts: the library's cheats for the left shift. A walk: the library's decimals, shifted to the left. -/
import GoSem.PinnedTables
import Derived.Test.YtmhgacgneckboaaGreatDoorQa
import Derived.Test.YtmhgacgneckboaaGreatDoorQj
namespace Dcp
open Go Adr
/-- The number that the digits from a on make, c of them. -/
def numD (D : Nat → Nat) (a : Nat) : Nat → Nat
  | 0 => 0
  | c + 1 => (D a - 48) * 10 ^ c + numD D (a + 1) c
def Dgt (D : Nat → Nat) (a b : Nat) : Prop := ∀ j, a ≤ j → j < b → 48 ≤ D j ∧ D j ≤ 57
def upd (D : Nat → Nat) (i x : Nat) : Nat → Nat := fun j => if j = i then x else D j
theorem upd_same (D : Nat → Nat) (i x : Nat) : upd D i x i = x := if_pos rfl
theorem upd_other {D : Nat → Nat} {i x j : Nat} (h : j ≠ i) : upd D i x j = D j := if_neg h
theorem numD_congr {D E : Nat → Nat} : ∀ {c a : Nat}, (∀ j, a ≤ j → j < a + c → D j = E j) → numD D a c = numD E a c
  | 0, _, _ => rfl
  | c + 1, a, h => by
    unfold numD
    rw [h a (Nat.le_refl _) (by omega), numD_congr (fun j h1 h2 => h j (by omega) (by omega))]
theorem numD_lt {D : Nat → Nat} : ∀ {c a : Nat}, Dgt D a (a + c) → numD D a c < 10 ^ c
  | 0, _, _ => by unfold numD; omega
  | c + 1, a, h => by
    have h1 := numD_lt (D := D) (c := c) (a := a + 1) (fun j h1 h2 => h j (by omega) (by omega))
    have h2 := h a (Nat.le_refl _) (by omega)
    have h3 : (D a - 48) * 10 ^ c ≤ 9 * 10 ^ c := Nat.mul_le_mul_right _ (by omega)
    unfold numD
    rw [Nat.pow_succ]; omega
theorem numD_lead {D : Nat → Nat} {c a : Nat} (h : 49 ≤ D a) : 10 ^ c ≤ numD D a (c + 1) := by
  unfold numD
  have : 1 * 10 ^ c ≤ (D a - 48) * 10 ^ c := Nat.mul_le_mul_right _ (by omega)
  omega
theorem numD_lead_of {D : Nat → Nat} {c a : Nat} (hd : Dgt D a (a + (c + 1))) (h : 10 ^ c ≤ numD D a (c + 1)) : 49 ≤ D a := by
  have h1 := numD_lt (D := D) (c := c) (a := a + 1) (fun j h1 h2 => hd j (by omega) (by omega))
  have h2 := hd a (Nat.le_refl _) (by omega)
  rcases Nat.lt_or_ge (D a) 49 with h3 | h3
  · exfalso
    unfold numD at h
    rw [show D a - 48 = 0 by omega, Nat.zero_mul] at h
    omega
  · exact h3
theorem numD_split (D : Nat → Nat) : ∀ (c d a : Nat), numD D a (c + d) = numD D a c * 10 ^ d + numD D (a + c) d
  | 0, d, a => by
    show numD D a (0 + d) = 0 * 10 ^ d + numD D (a + 0) d
    rw [Nat.zero_mul, Nat.zero_add, Nat.zero_add, Nat.add_zero]
  | c + 1, d, a => by
    rw [show c + 1 + d = c + d + 1 by omega]
    show (D a - 48) * 10 ^ (c + d) + numD D (a + 1) (c + d) = ((D a - 48) * 10 ^ c + numD D (a + 1) c) * 10 ^ d + numD D (a + (c + 1)) d
    rw [numD_split D c d (a + 1), Nat.pow_add, Nat.add_mul, Nat.mul_assoc, show a + 1 + c = a + (c + 1) by omega, Nat.add_assoc]
/-- A digit more, on the left shift's way down: m is what is carried. -/
theorem left_step {d m S T k N : Nat} (h : m * N + T = S * 2 ^ k) : (d * 2 ^ k + m) / 10 * (N * 10) + ((d * 2 ^ k + m) % 10 * N + T) = (d * N + S) * 2 ^ k := by
  have h1 := Nat.div_add_mod (d * 2 ^ k + m) 10
  generalize (d * 2 ^ k + m) / 10 = a at *
  generalize (d * 2 ^ k + m) % 10 = b at *
  have h2 : a * (N * 10) + b * N = (10 * a + b) * N := by rw [Nat.add_mul, Nat.mul_comm N 10, ← Nat.mul_assoc, Nat.mul_comm a 10]
  have h3 : (10 * a + b) * N = d * 2 ^ k * N + m * N := by rw [h1, Nat.add_mul]
  have h4 : (d * N + S) * 2 ^ k = d * 2 ^ k * N + S * 2 ^ k := by rw [Nat.add_mul, Nat.mul_assoc, Nat.mul_comm N, ← Nat.mul_assoc]
  omega
theorem carry_lt {m N T S k : Nat} (h : m * N + T = S * 2 ^ k) (hS : S < N) : m < 2 ^ k := by
  have hk := Nat.two_pow_pos k
  have h1 : S * 2 ^ k < N * 2 ^ k := Nat.mul_lt_mul_of_pos_right hS hk
  rcases Nat.lt_or_ge m (2 ^ k) with h2 | h2
  · exact h2
  · exfalso
    have h3 : 2 ^ k * N ≤ m * N := Nat.mul_le_mul_right _ h2
    rw [Nat.mul_comm] at h3
    omega
/-- What the comparison with the cheat says: less. -/
theorem less_bound {V n c L : Nat} (h : V * 10 ^ L < c * 10 ^ n) {k delta : Nat} (hc : c = 5 ^ k) (hL : L + delta = k + 1) (hd : 1 ≤ delta) : V * 2 ^ k < 10 ^ (n + (delta - 1)) := by
  have h1 : V * 10 ^ L * 2 ^ k < c * 10 ^ n * 2 ^ k := Nat.mul_lt_mul_of_pos_right h (Nat.two_pow_pos k)
  have h2 : c * 10 ^ n * 2 ^ k = 10 ^ k * 10 ^ n := by rw [hc, show (10 : Nat) ^ k = (5 * 2) ^ k from rfl, Nat.mul_pow, Nat.mul_assoc, Nat.mul_comm (10 ^ n), ← Nat.mul_assoc]
  have h3 : 10 ^ k * 10 ^ n = 10 ^ (n + (delta - 1)) * 10 ^ L := by rw [← Nat.pow_add, ← Nat.pow_add]; congr 1; omega
  rw [h2, h3, Nat.mul_assoc, Nat.mul_comm (10 ^ L), ← Nat.mul_assoc] at h1
  exact Nat.lt_of_mul_lt_mul_right h1
theorem notless_bound {V n c L : Nat} (h : c * 10 ^ n ≤ V * 10 ^ L) {k delta : Nat} (hc : c = 5 ^ k) (hL : L + delta = k + 1) (hd : 1 ≤ delta) : 10 ^ (n + (delta - 1)) ≤ V * 2 ^ k := by
  have h1 : c * 10 ^ n * 2 ^ k ≤ V * 10 ^ L * 2 ^ k := Nat.mul_le_mul_right _ h
  have h2 : c * 10 ^ n * 2 ^ k = 10 ^ k * 10 ^ n := by rw [hc, show (10 : Nat) ^ k = (5 * 2) ^ k from rfl, Nat.mul_pow, Nat.mul_assoc, Nat.mul_comm (10 ^ n), ← Nat.mul_assoc]
  have h3 : 10 ^ k * 10 ^ n = 10 ^ (n + (delta - 1)) * 10 ^ L := by rw [← Nat.pow_add, ← Nat.pow_add]; congr 1; omega
  rw [h2, h3, Nat.mul_assoc V, Nat.mul_comm (10 ^ L), ← Nat.mul_assoc] at h1
  exact Nat.le_of_mul_le_mul_right h1 (Nat.pow_pos (by decide))
/-- The digits of a text, and their number. -/
def sD (s : List UInt8) : Nat → Nat := fun j => (s.getD j 0).toNat
theorem valFrom_numD (s : List UInt8) : ∀ (a : Nat), valFrom a s = a * 10 ^ s.length + numD (sD s) 0 s.length := by
  induction s with
  | nil => intro a; show a = a * 10 ^ 0 + 0; omega
  | cons c r ih =>
    intro a
    have e : numD (sD (c :: r)) 0 (r.length + 1) = (c.toNat - 48) * 10 ^ r.length + numD (sD r) 0 r.length := by
      show (sD (c :: r) 0 - 48) * 10 ^ r.length + numD (sD (c :: r)) (0 + 1) r.length = _
      congr 1
      have : ∀ (n a : Nat), numD (sD (c :: r)) (a + 1) n = numD (sD r) a n := by
        intro n
        induction n with
        | zero => intro a; rfl
        | succ n ih2 => intro a; show (sD (c :: r) (a + 1) - 48) * 10 ^ n + _ = _; rw [ih2 (a + 1)]; rfl
      exact this _ 0
    rw [valFrom_cons, ih, List.length_cons, e, Nat.pow_succ, Nat.add_mul, ← Nat.add_assoc]
    congr 2
    rw [Nat.mul_comm 10 a, Nat.mul_assoc, Nat.mul_comm 10]
/-- Where the first i digits are the same and the next one is less. -/
theorem pre_less {D E : Nat → Nat} {n L i : Nat} (hi : i < n) (hL : i < L) (hD : Dgt D 0 n) (hE : Dgt E 0 L) (hs : ∀ j, j < i → D j = E j) (h : D i < E i) : numD D 0 n * 10 ^ L < numD E 0 L * 10 ^ n := by
  obtain ⟨c, rfl⟩ : ∃ c, n = i + (c + 1) := ⟨n - i - 1, by omega⟩
  obtain ⟨d, rfl⟩ : ∃ d, L = i + (d + 1) := ⟨L - i - 1, by omega⟩
  rw [numD_split D i (c + 1) 0, numD_split E i (d + 1) 0, numD_congr (D := D) (E := E) (c := i) (a := 0) (fun j _ h2 => hs j (by omega)), Nat.zero_add]
  have h1 := numD_lt (D := D) (c := c) (a := i + 1) (fun j h1 h2 => hD j (by omega) (by omega))
  have hd1 := hD i (by omega) (by omega)
  have he1 := hE i (by omega) (by omega)
  have e1 : numD D i (c + 1) = (D i - 48) * 10 ^ c + numD D (i + 1) c := rfl
  have e2 : numD E i (d + 1) = (E i - 48) * 10 ^ d + numD E (i + 1) d := rfl
  have h2 : numD D i (c + 1) < (E i - 48) * 10 ^ c := by
    rw [e1]
    have : (D i - 48 + 1) * 10 ^ c ≤ (E i - 48) * 10 ^ c := Nat.mul_le_mul_right _ (by omega)
    rw [Nat.add_mul, Nat.one_mul] at this
    omega
  have h3 : (E i - 48) * 10 ^ d ≤ numD E i (d + 1) := by rw [e2]; omega
  generalize numD E 0 i = P at *
  generalize numD D i (c + 1) = x at *
  generalize numD E i (d + 1) = y at *
  generalize E i - 48 = g at *
  have k1 : (P * 10 ^ (c + 1) + x) * 10 ^ (i + (d + 1)) = P * 10 ^ (c + 1) * 10 ^ (i + (d + 1)) + x * 10 ^ (i + (d + 1)) := Nat.add_mul _ _ _
  have k2 : (P * 10 ^ (d + 1) + y) * 10 ^ (i + (c + 1)) = P * 10 ^ (d + 1) * 10 ^ (i + (c + 1)) + y * 10 ^ (i + (c + 1)) := Nat.add_mul _ _ _
  have k3 : P * 10 ^ (c + 1) * 10 ^ (i + (d + 1)) = P * 10 ^ (d + 1) * 10 ^ (i + (c + 1)) := by
    rw [Nat.mul_assoc, Nat.mul_assoc, ← Nat.pow_add, ← Nat.pow_add]; congr 2; omega
  have k4 : x * 10 ^ (i + (d + 1)) < g * 10 ^ c * 10 ^ (i + (d + 1)) := Nat.mul_lt_mul_of_pos_right h2 (Nat.pow_pos (by decide))
  have k5 : g * 10 ^ d * 10 ^ (i + (c + 1)) ≤ y * 10 ^ (i + (c + 1)) := Nat.mul_le_mul_right _ h3
  have k6 : g * 10 ^ c * 10 ^ (i + (d + 1)) = g * 10 ^ d * 10 ^ (i + (c + 1)) := by
    rw [Nat.mul_assoc, Nat.mul_assoc, ← Nat.pow_add, ← Nat.pow_add]; congr 2; omega
  rw [k1, k2, k3]
  omega
/-- Where all n digits are the same, and the text goes on. -/
theorem pre_short {D E : Nat → Nat} {n L : Nat} (hL : n < L) (hE : Dgt E 0 L) (hs : ∀ j, j < n → D j = E j) (h : 49 ≤ E (L - 1)) : numD D 0 n * 10 ^ L < numD E 0 L * 10 ^ n := by
  obtain ⟨d, rfl⟩ : ∃ d, L = n + (d + 1) := ⟨L - n - 1, by omega⟩
  rw [numD_split E n (d + 1) 0, numD_congr (D := D) (E := E) (c := n) (a := 0) (fun j _ h2 => hs j (by omega)), Nat.zero_add]
  have h1 : 1 ≤ numD E n (d + 1) := by
    rw [numD_split E d 1 n]
    have : numD E (n + d) 1 = (E (n + d) - 48) * 10 ^ 0 + 0 := rfl
    rw [show n + (d + 1) - 1 = n + d by omega] at h
    rw [this]; omega
  generalize numD E 0 n = P at *
  generalize numD E n (d + 1) = y at *
  rw [Nat.add_mul, Nat.pow_add, ← Nat.mul_assoc, Nat.mul_right_comm P]
  have : 1 * 10 ^ n ≤ y * 10 ^ n := Nat.mul_le_mul_right _ h1
  have h2 := Nat.pow_pos (n := n) (show 0 < 10 by decide)
  omega
/-- Where the whole text stands ahead. -/
theorem pre_all {D E : Nat → Nat} {n L : Nat} (hL : L ≤ n) (hs : ∀ j, j < L → D j = E j) : numD E 0 L * 10 ^ n ≤ numD D 0 n * 10 ^ L := by
  obtain ⟨d, rfl⟩ : ∃ d, n = L + d := ⟨n - L, by omega⟩
  rw [numD_split D L d 0, numD_congr (D := D) (E := E) (c := L) (a := 0) (fun j _ h2 => hs j (by omega)), Nat.zero_add, Nat.add_mul, Nat.pow_add, ← Nat.mul_assoc, Nat.mul_right_comm]
  omega
end Dcp

namespace Go.Proofs.YtmhgacgneckboaaGreatDoor
open Go Go.RowKit Dcp Go.Sort Adr

/-- A decimal of the library in the block B: its bytes, how many are digits, its point; nothing below the world's size has turned. -/
structure Dec (w0 w : World) (B : Nat) (D : Nat → Nat) (n : Nat) (p : Int) : Prop where
  bel : Below w0.heap.size w0 w
  old : w0.heap.size ≤ B
  lt : B < w.heap.size
  byt : ∀ j, j < 800 → w.cell? ⟨B, j, none⟩ = some (.int .u8 (D j : Nat))
  nd : w.cell? ⟨B, 800, none⟩ = some (.int .i64 n)
  dp : w.cell? ⟨B, 801, none⟩ = some (.int .i64 p)
  fr : ∀ j, w.frozen? ⟨B, j, none⟩ = false
  small : ∀ j, j < 800 → D j < 256
section
variable {w0 w : World} {B : Nat} {D : Nat → Nat} {n : Nat} {p : Int}
theorem set_ne {W : World} {b o o' : Nat} {v u : Value} (hne : o ≠ o') (h : W.cell? ⟨b, o', none⟩ = some u) : (W.setCell ⟨b, o, none⟩ v).cell? ⟨b, o', none⟩ = some u :=
  (World.cell?_setCell_other _ _ _ _ (by intro e; simp only [Addr.mk.injEq] at e; omega)).trans h
theorem Dec.set (h : Dec w0 w B D n p) {i : Nat} (hi : i < 800) (x : Nat) (hx : x < 256) : Dec w0 (w.setCell ⟨B, i, none⟩ (.int .u8 x)) B (upd D i x) n p :=
  ⟨h.bel.setCell h.old _, h.old, by simpa using h.lt, fun j hj => by
    by_cases e : j = i
    · subst e; rw [upd_same]; exact World.cell?_setCell_same _ _ _ (h.byt j hj)
    · rw [upd_other e]; exact set_ne (Ne.symm e) (h.byt j hj),
   set_ne (by omega) h.nd, set_ne (by omega) h.dp, fun j => by rw [World.frozen?_setCell]; exact h.fr j, fun j hj => by
    by_cases e : j = i
    · subst e; rw [upd_same]; exact hx
    · rw [upd_other e]; exact h.small j hj⟩
theorem Dec.setN (h : Dec w0 w B D n p) (m : Nat) : Dec w0 (w.setCell ⟨B, 800, none⟩ (.int .i64 m)) B D m p :=
  ⟨h.bel.setCell h.old _, h.old, by simpa using h.lt, fun j hj => set_ne (by omega) (h.byt j hj), World.cell?_setCell_same _ _ _ h.nd, set_ne (by omega) h.dp, fun j => by rw [World.frozen?_setCell]; exact h.fr j, h.small⟩
theorem Dec.setP (h : Dec w0 w B D n p) (q : Int) : Dec w0 (w.setCell ⟨B, 801, none⟩ (.int .i64 q)) B D n q :=
  ⟨h.bel.setCell h.old _, h.old, by simpa using h.lt, fun j hj => set_ne (by omega) (h.byt j hj), set_ne (by omega) h.nd, World.cell?_setCell_same _ _ _ h.dp, fun j => by rw [World.frozen?_setCell]; exact h.fr j, h.small⟩
theorem Dec.below {w' : World} (h : Dec w0 w B D n p) (hb : Below w.heap.size w w') : Dec w0 w' B D n p :=
  ⟨below_step h.bel hb, h.old, Nat.lt_of_lt_of_le h.lt hb.size, fun j hj => (hb.cell (p := ⟨B, j, none⟩) h.lt).trans (h.byt j hj), (hb.cell (p := ⟨B, 800, none⟩) h.lt).trans h.nd, (hb.cell (p := ⟨B, 801, none⟩) h.lt).trans h.dp, fun j => (hb.frozen (p := ⟨B, j, none⟩) h.lt).trans (h.fr j), h.small⟩
theorem Dec.drewN (h : Dec w0 w B D n p) (q : Nat) : Dec w0 (w.drewN q) B D n p := h.below (below_drews q)
theorem Dec.drew (h : Dec w0 w B D n p) : Dec w0 w.drew B D n p := h.drewN 1
end
set_option maxHeartbeats 1000000 in
set_option maxRecDepth 100000 in
theorem trimD_any (w0 w : World) (B : Nat) (D : Nat → Nat) (n : Nat) (p : Int) (h : Dec w0 w B D n p) (hn : 1 ≤ n) (hn2 : n ≤ 800) (h0 : 49 ≤ D 0) :
    Calls Tryz.prog 130 #[.pointer (some ⟨B, 0, none⟩)] w fun e w' => e = .returned (.tuple #[]) ∧ ∃ m, 1 ≤ m ∧ m ≤ n ∧ Dec w0 w' B D m p := by
  have H0 : Hid (Dec w0 w B D n p) := h
  clear h
  go_enter Tryz.func130, Tryz.ntmps130
  go_wp2_with fail
  go_loopw [] (fun wr => ∃ m, 1 ≤ m ∧ m ≤ n ∧ Hid (Dec w0 wr B D m p)) (fun wr => match wr.cell? ⟨B, 800, none⟩ with | some (.int _ m) => m.toNat | _ => 0)
  case atStart => exact ⟨n, hn, Nat.le_refl _, H0⟩
  case round =>
    clear H0
    obtain ⟨m, hm1, hm2, H1⟩ := hrel
    obtain ⟨q, rfl⟩ : ∃ q, m = q + 1 := ⟨m - 1, by omega⟩
    have c1 : wr.cell? ⟨B, 800, none⟩ = some (.int .i64 ((q : Int) + 1)) := by have := H1.out.nd; simpa using this
    have c2 := H1.out.byt q (by omega)
    have f1 := H1.out.fr 800
    by_cases hz : D q = 48
    · have hz2 : (((D q : Nat) : Int) == 48) = true := by rw [hz]; rfl
      have hq0 : 1 ≤ q := by
        rcases Nat.eq_zero_or_pos q with h | h
        · subst h; omega
        · exact h
      generalize D q = x at *
      go_wp2_with fail
      go_quiet (fail)
      have H3 := Lib.hid (H1.out.drewN nq)
      have hmes : ∀ w1 : World, Hid (Dec w0 w1 B D (q + 1) p) → w1.cell? ⟨B, 800, none⟩ = some (.int .i64 ((q : Int) + 1)) ∧ w1.frozen? ⟨B, 800, none⟩ = false ∧ Hid (Dec w0 (w1.setCell ⟨B, 800, none⟩ (.int .i64 q)) B D q p) := fun w1 h => ⟨by have := h.out.nd; simpa using this, h.out.fr 800, h.out.setN q⟩
      obtain ⟨c3, f3, H2⟩ := hmes _ H3
      have c4 : ((wr.drewN nq).setCell ⟨B, 800, none⟩ (.int .i64 (q : Int))).cell? ⟨B, 800, none⟩ = some (.int .i64 q) := World.cell?_setCell_same _ _ _ c3
      have HC4 := Lib.hid c4
      have HC1 := Lib.hid c1
      clear hmes H3 c4 c1 c2 f1
      generalize wr.drewN nq = w1 at *
      go_wp2_with fail
      go_roundw
      case rel => exact ⟨q, by omega, by omega, H2⟩
      case measure => rw [HC4.out, HC1.out]; show (q : Int).toNat < ((q : Int) + 1).toNat; omega
    · have hz2 : (((D q : Nat) : Int) == 48) = false := by rw [beq_eq_false_iff_ne]; omega
      generalize D q = x at *
      go_wp2_with fail
      go_quiet (fail)
      have H3 := Lib.hid (H1.out.drewN nq)
      have c3 : (wr.drewN nq).cell? ⟨B, 800, none⟩ = some (.int .i64 ((q : Int) + 1)) := by have := H3.out.nd; simpa using this
      clear c1 c2 f1
      generalize wr.drewN nq = w1 at *
      go_wp2_with fail
      go_end0
      exact ⟨rfl, q + 1, by omega, hm2, H3.out⟩
end Go.Proofs.YtmhgacgneckboaaGreatDoor

namespace Go.Proofs.YtmhgacgneckboaaGreatDoor
open Go Go.RowKit Dcp Go.Sort Adr
set_option maxHeartbeats 1000000 in
set_option maxRecDepth 100000 in
theorem less_any' (w : World) (B c n : Nat) (D : Nat → Nat) (s : ByteArray) (hb : ∀ j, j < n → w.cell? ⟨B, j, none⟩ = some (.int .u8 (D j : Nat))) (hn : n ≤ c) (hc : c ≤ 1000) (hs : s.size ≤ 1000) (hD : Dgt D 0 n) (hS : Dgt (sD s.data.toList) 0 s.size) (hl : 49 ≤ sD s.data.toList (s.size - 1)) :
    Calls Tryz.prog 143 #[.slice (some ⟨B, 0, none⟩) n c, .string s] w fun e w' => e = .returned (.bool (decide (numD D 0 n * 10 ^ s.size < numD (sD s.data.toList) 0 s.size * 10 ^ n))) ∧ ∃ m, w' = w.drewN m := by
  have HB := Lib.hid hb
  have HY : Hid (∀ j (h : j < s.size), sD s.data.toList j = s[j].toNat) := fun j h => by
    unfold sD
    have h2 : j < s.data.toList.length := by simpa using h
    rw [List.getD_eq_getElem?_getD, List.getElem?_eq_getElem h2]; rfl
  have HA : Hid (∀ i, i < n → i < s.size → (∀ j, j < i → D j = sD s.data.toList j) → D i < sD s.data.toList i → numD D 0 n * 10 ^ s.size < numD (sD s.data.toList) 0 s.size * 10 ^ n) := fun i h1 h2 h3 h4 => pre_less h1 h2 hD hS h3 h4
  have HG : Hid (∀ i, i < n → i < s.size → (∀ j, j < i → D j = sD s.data.toList j) → sD s.data.toList i < D i → numD (sD s.data.toList) 0 s.size * 10 ^ n ≤ numD D 0 n * 10 ^ s.size) := fun i h1 h2 h3 h4 => Nat.le_of_lt (pre_less h2 h1 hS hD (fun j hj => (h3 j hj).symm) h4)
  have HSh : Hid (n < s.size → (∀ j, j < n → D j = sD s.data.toList j) → numD D 0 n * 10 ^ s.size < numD (sD s.data.toList) 0 s.size * 10 ^ n) := fun h1 h2 => pre_short h1 hS h2 hl
  have HAl : Hid (s.size ≤ n → (∀ j, j < s.size → D j = sD s.data.toList j) → numD (sD s.data.toList) 0 s.size * 10 ^ n ≤ numD D 0 n * 10 ^ s.size) := fun h1 h2 => pre_all h1 h2
  generalize numD D 0 n * 10 ^ s.size = X at *
  generalize numD (sD s.data.toList) 0 s.size * 10 ^ n = Y at *
  generalize sD s.data.toList = E at *
  clear hb hD hS hl
  go_enter Tryz.func143, Tryz.ntmps143
  go_wp2_with fail
  go_loopw [5] (fun vi wr => ∃ i : Nat, i ≤ s.size ∧ i ≤ n ∧ vi = .int .i64 i ∧ Hid (∀ j, j < i → D j = E j) ∧ ∃ q, wr = w.drewN q) (fun vi _ => s.size - (intOf vi).toNat)
  case atStart => exact ⟨0, by omega, by omega, rfl, (fun j h => absurd h (by omega)), 0, rfl⟩
  case round =>
    obtain ⟨i, hi1, hi2, rfl, HE, q, rfl⟩ := hrel
    by_cases hlt : i < s.size
    · by_cases hin : i < n
      · have c1 := HB.out i hin
        have hy := HY.out i hlt
        have HEy : Hid (E i = s[i].toNat) := hy
        have hDi : ∀ j, j < i + 1 → D i = E i → D j = E j := fun j h1 h2 => by
          rcases Nat.lt_or_ge j i with h | h
          · exact HE.out j h
          · obtain rfl : j = i := by omega
            exact h2
        have HDi := Lib.hid hDi
        obtain ⟨x, hx⟩ : ∃ x, D i = x := ⟨_, rfl⟩
        obtain ⟨y, hys⟩ : ∃ y, s[i].toNat = y := ⟨_, rfl⟩
        have HX : Hid (D i = x) := hx
        have HYs : Hid (E i = y) := hy.trans hys
        rw [hx] at c1
        clear hx hy hDi
        by_cases hxy : x = y
        · subst hxy
          go_wp2_with fail
          go_quiet (fail)
          rw [World.drewN_drewN]
          go_wp2_with fail
          go_roundw
          case rel => exact ⟨i + 1, by omega, by omega, by go_num, (fun j h => HDi.out j h (HX.out.trans HYs.out.symm)), _, rfl⟩
          case measure => simp [intOf]; omega
        · have hne : ((x : Int) == (y : Int)) = false := by rw [beq_eq_false_iff_ne]; omega
          have hne2 : ((x : Int) != (y : Int)) = true := by rw [bne_iff_ne]; omega
          have hne3 : ¬ (x : Int) = (y : Int) := by omega
          have HF : Hid (decide (X < Y) = decide (x < y)) := by
            show _ = _
            apply decide_eq_decide.2
            constructor
            · intro h
              rcases Nat.lt_or_ge x y with h2 | h2
              · exact h2
              · have := HG.out i hin hlt HE.out (by rw [HX.out, HYs.out]; omega)
                omega
            · intro h; exact HA.out i hin hlt HE.out (by rw [HX.out, HYs.out]; exact h)
          clear HA HG HSh HAl HYs HDi
          go_wp2_with fail
          go_quiet (fail)
          rw [World.drewN_drewN]
          go_wp2_with fail
          go_quiet (fail)
          rw [World.drewN_drewN]
          go_wp2_with fail
          go_ret
          exact ⟨ret_bool HF.out.symm, _, rfl⟩
      · obtain rfl : i = n := by omega
        have HF := Lib.hid (HSh.out hlt HE.out)
        have hge : (i : Int) ≤ (i : Int) := by omega
        go_wp2_with fail
        go_ret
        exact ⟨ret_bool (decide_eq_true HF.out).symm, _, rfl⟩
    · obtain rfl : i = s.size := by omega
      have HF := Lib.hid (HAl.out hi2 HE.out)
      go_wp2_with fail
      go_ret
      exact ⟨ret_bool (decide_eq_false (Nat.not_lt.2 HF.out)).symm, _, rfl⟩
end Go.Proofs.YtmhgacgneckboaaGreatDoor

namespace Dcp
open Go Adr
def lcD (k : Nat) : Nat := (Go.Pinned.cheatRows.getD k (0, [])).1
def lcS (k : Nat) : List UInt8 := (Go.Pinned.cheatRows.getD k (0, [])).2
def lcOk (k : Nat) : Bool := decide (1 ≤ lcD k) && decide (lcD k ≤ 19) && decide (10 ^ (lcD k - 1) ≤ 2 ^ k) && decide (2 ^ k < 10 ^ lcD k) && decide ((lcS k).length + lcD k = k + 1) && decide (1 ≤ (lcS k).length) && (lcS k).all (fun c => decide (48 ≤ c.toNat) && decide (c.toNat ≤ 57)) && decide (49 ≤ ((lcS k).getD ((lcS k).length - 1) 0).toNat) && decide (valFrom 0 (lcS k) = 5 ^ k)
theorem lc_all : (List.range 61).all (fun k => k == 0 || lcOk k) = true := by decide +kernel
structure Cheat (k : Nat) : Prop where
  d1 : 1 ≤ lcD k
  d2 : lcD k ≤ 19
  lo : 10 ^ (lcD k - 1) ≤ 2 ^ k
  hi : 2 ^ k < 10 ^ lcD k
  len : (lcS k).length + lcD k = k + 1
  len1 : 1 ≤ (lcS k).length
  dig : Dgt (sD (lcS k)) 0 (lcS k).length
  last : 49 ≤ sD (lcS k) ((lcS k).length - 1)
  val : numD (sD (lcS k)) 0 (lcS k).length = 5 ^ k
theorem cheat {k : Nat} (h1 : 1 ≤ k) (h2 : k ≤ 60) : Cheat k := by
  have h := List.all_eq_true.1 lc_all k (List.mem_range.2 (by omega))
  rw [show (k == 0) = false by rw [beq_eq_false_iff_ne]; omega, Bool.false_or] at h
  unfold lcOk at h
  simp only [Bool.and_eq_true, decide_eq_true_eq] at h
  obtain ⟨⟨⟨⟨⟨⟨⟨⟨a1, a2⟩, a3⟩, a4⟩, a5⟩, a6⟩, a7⟩, a8⟩, a9⟩ := h
  refine ⟨a1, a2, a3, a4, a5, a6, fun j _ hj => ?_, a8, ?_⟩
  · have hj : j < (lcS k).length := by omega
    have := List.all_eq_true.1 a7 _ (List.getElem_mem hj)
    simp only [Bool.and_eq_true, decide_eq_true_eq] at this
    unfold sD
    rw [List.getD_eq_getElem?_getD, List.getElem?_eq_getElem hj]
    exact this
  · have := valFrom_numD (lcS k) 0
    rw [a9, Nat.zero_mul, Nat.zero_add] at this
    exact this.symm
end Dcp

namespace Dcp
open Go Go.RowKit
/-- The library's cheats, in their cells. -/
structure EnvL (w : World) : Prop where
  cell : ∃ T o cap : Nat, w.cell? ⟨9, 0, none⟩ = some (.slice (some ⟨T, o, none⟩) 61 cap) ∧ ∀ k, 1 ≤ k → k ≤ 60 → w.cell? ⟨T, o + k * 2, none⟩ = some (.int .i64 (lcD k)) ∧ w.cell? ⟨T, o + k * 2 + 1, none⟩ = some (.string ⟨(lcS k).toArray⟩)
theorem EnvL.below {w w' : World} (h : EnvL w) (hb : Below w.heap.size w w') : EnvL w' := by
  obtain ⟨T, o, cap, h1, h2⟩ := h.cell
  exact ⟨⟨T, o, cap, (hb.cell (Lib.lt_of_cell h1)).trans h1, fun k a b => ⟨(hb.cell (Lib.lt_of_cell (h2 k a b).1)).trans (h2 k a b).1, (hb.cell (Lib.lt_of_cell (h2 k a b).2)).trans (h2 k a b).2⟩⟩⟩
/-- The left shift's way down: r digits are still to be read, t is where the next one is written ahead of, m is carried. -/
structure LeftI (D : Nat → Nat) (n δ k r t m : Nat) (E : Nat → Nat) : Prop where
  tr : t = r + δ
  rn : r ≤ n
  same : ∀ j, j < r → E j = D j
  dig : Dgt E t (n + δ)
  eq : m * 10 ^ (n - r) + numD E t (n - r) = numD D r (n - r) * 2 ^ k
  lt : m < 2 ^ k
theorem LeftI.step {D E : Nat → Nat} {n δ k i t m : Nat} (h : LeftI D n δ k (i + 1) (t + 1) m E) (hD : Dgt D 0 n) : LeftI D n δ k i t ((m + (D i - 48) * 2 ^ k) / 10) (upd E t ((m + (D i - 48) * 2 ^ k) % 10 + 48)) := by
  have htr := h.tr
  have hrn := h.rn
  obtain ⟨c, hc⟩ : ∃ c, n - (i + 1) = c := ⟨_, rfl⟩
  have hc1 : n - i = c + 1 := by omega
  have heq := h.eq
  rw [hc] at heq
  have e1 : numD (upd E t ((m + (D i - 48) * 2 ^ k) % 10 + 48)) t (c + 1) = (m + (D i - 48) * 2 ^ k) % 10 * 10 ^ c + numD E (t + 1) c := by
    show (upd E t _ t - 48) * 10 ^ c + numD (upd E t _) (t + 1) c = _
    rw [upd_same, Nat.add_sub_cancel, numD_congr (fun j h1 h2 => upd_other (by omega))]
  have e2 : numD D i (c + 1) = (D i - 48) * 10 ^ c + numD D (i + 1) c := rfl
  have e3 := left_step (d := D i - 48) heq
  rw [Nat.add_comm ((D i - 48) * 2 ^ k) m] at e3
  have e4 : (m + (D i - 48) * 2 ^ k) / 10 * 10 ^ (c + 1) + numD (upd E t ((m + (D i - 48) * 2 ^ k) % 10 + 48)) t (c + 1) = numD D i (c + 1) * 2 ^ k := by rw [e1, e2, Nat.pow_succ]; exact e3
  refine ⟨by omega, by omega, fun j hj => ?_, fun j h1 h2 => ?_, by rw [hc1]; exact e4, ?_⟩
  · rw [upd_other (by omega)]; exact h.same j (by omega)
  · by_cases e : j = t
    · subst e; rw [upd_same]; omega
    · rw [upd_other e]; exact h.dig j (by omega) h2
  · have h1 := numD_lt (D := D) (c := c + 1) (a := i) (fun j h1 h2 => hD j (by omega) (by omega))
    exact carry_lt e4 h1
/-- .. and what is put down behind it. -/
structure LeftJ (n δ Z t m : Nat) (E : Nat → Nat) : Prop where
  td : t ≤ δ
  dig : Dgt E t (n + δ)
  eq : m * 10 ^ (n + δ - t) + numD E t (n + δ - t) = Z
theorem LeftI.over {D E : Nat → Nat} {n δ k t m : Nat} (h : LeftI D n δ k 0 t m E) : LeftJ n δ (numD D 0 n * 2 ^ k) t m E := by
  have htr := h.tr
  have heq := h.eq
  rw [Nat.sub_zero] at heq
  exact ⟨by omega, h.dig, by rw [show n + δ - t = n by omega]; exact heq⟩
theorem LeftJ.pos {n δ Z t m : Nat} {E : Nat → Nat} (h : LeftJ n δ Z t m E) (hZ : Z < 10 ^ (n + δ)) (hm : 0 < m) : 1 ≤ t := by
  rcases Nat.eq_zero_or_pos t with h0 | h0
  · exfalso
    have heq := h.eq
    rw [h0, Nat.sub_zero] at heq
    have : 1 * 10 ^ (n + δ) ≤ m * 10 ^ (n + δ) := Nat.mul_le_mul_right _ hm
    omega
  · exact h0
theorem LeftJ.step {n δ Z t m : Nat} {E : Nat → Nat} (h : LeftJ n δ Z (t + 1) m E) : LeftJ n δ Z t (m / 10) (upd E t (m % 10 + 48)) := by
  have htd := h.td
  obtain ⟨c, hc⟩ : ∃ c, n + δ - (t + 1) = c := ⟨_, rfl⟩
  have hc1 : n + δ - t = c + 1 := by omega
  have heq := h.eq
  rw [hc] at heq
  have e1 : numD (upd E t (m % 10 + 48)) t (c + 1) = m % 10 * 10 ^ c + numD E (t + 1) c := by
    show (upd E t _ t - 48) * 10 ^ c + numD (upd E t _) (t + 1) c = _
    rw [upd_same, Nat.add_sub_cancel, numD_congr (fun j h1 h2 => upd_other (by omega))]
  refine ⟨by omega, fun j h1 h2 => ?_, ?_⟩
  · by_cases e : j = t
    · subst e; rw [upd_same]; omega
    · rw [upd_other e]; exact h.dig j (by omega) h2
  · rw [hc1, e1, Nat.pow_succ, ← heq]
    have h1 := Nat.div_add_mod m 10
    have h2 : m * 10 ^ c = (10 * (m / 10) + m % 10) * 10 ^ c := by rw [h1]
    rw [Nat.add_mul] at h2
    have h3 : m / 10 * (10 ^ c * 10) = 10 * (m / 10) * 10 ^ c := by rw [Nat.mul_comm (10 ^ c) 10, ← Nat.mul_assoc, Nat.mul_comm (m / 10) 10]
    omega
theorem LeftJ.done {n δ Z t : Nat} {E : Nat → Nat} (h : LeftJ n δ Z t 0 E) (hZ : 10 ^ (n + δ - 1) ≤ Z) (hn : 1 ≤ n) : Dgt E 0 (n + δ) ∧ 49 ≤ E 0 := by
  have htd := h.td
  have heq := h.eq
  rw [Nat.zero_mul, Nat.zero_add] at heq
  have h1 := numD_lt (D := E) (c := n + δ - t) (a := t) (by rw [show t + (n + δ - t) = n + δ by omega]; exact h.dig)
  have ht : t = 0 := by
    rcases Nat.eq_zero_or_pos t with h0 | h0
    · exact h0
    · exfalso
      have : 10 ^ (n + δ - t) ≤ 10 ^ (n + δ - 1) := Nat.pow_le_pow_right (by decide) (by omega)
      omega
  subst ht
  have hd := h.dig
  refine ⟨hd, ?_⟩
  obtain ⟨c, hc⟩ : ∃ c, n + δ = c + 1 := ⟨n + δ - 1, by omega⟩
  rw [Nat.sub_zero, hc] at heq
  rw [hc, Nat.add_sub_cancel] at hZ
  rw [hc] at hd
  exact numD_lead_of (c := c) (a := 0) (by rw [Nat.zero_add]; exact hd) (by rw [heq]; exact hZ)
end Dcp
namespace Go.Proofs.YtmhgacgneckboaaGreatDoor
open Go Go.RowKit Dcp Go.Sort Adr
set_option maxHeartbeats 1000000 in
set_option maxRecDepth 100000 in
theorem leftShift_any (w0 w : World) (B : Nat) (D : Nat → Nat) (n k : Nat) (p : Nat) (h : Dec w0 w B D n p) (hE : EnvL w) (hn : 1 ≤ n) (hnp : n ≤ p) (hp : p ≤ 700) (hD : Dgt D 0 n) (h0 : 49 ≤ D 0) (hk : 1 ≤ k) (hk2 : k ≤ 60) :
    Calls Tryz.prog 131 #[.pointer (some ⟨B, 0, none⟩), .int .u64 k] w fun e w' => e = .returned (.tuple #[]) ∧ ∃ (D' : Nat → Nat) (n' p' : Nat), Dec w0 w' B D' n' p' ∧ 1 ≤ n' ∧ n' ≤ p' ∧ p' ≤ p + 19 ∧ Dgt D' 0 n' ∧ 49 ≤ D' 0 := by
  obtain ⟨T, o, cap, t1, t2⟩ := hE.cell
  obtain ⟨t3, t4⟩ := t2 k hk hk2
  have ch := cheat hk hk2
  have H0 : Hid (Dec w0 w B D n p) := h
  have c1 := h.nd
  obtain ⟨S, hS⟩ : ∃ S : ByteArray, (⟨(lcS k).toArray⟩ : ByteArray) = S := ⟨_, rfl⟩
  have hSd : S.data.toList = lcS k := by rw [← hS]
  have hSz : S.size = (lcS k).length := by rw [← hS, size_mk]
  have hn8 : (n : Int) ≤ 800 := by omega
  have hn9 : n ≤ 800 := by omega
  rw [hS] at t4
  have HLs := Lib.hid (fun q => less_any' (w.drewN q) B 800 n D S (fun j hj => (h.drewN q).byt j (by omega)) (by omega) (by omega) (by have := ch.len; omega) hD (by rw [hSd, hSz]; exact ch.dig) (by rw [hSd, hSz]; exact ch.last))
  rw [hSd, hSz, ch.val] at HLs
  have hV0 : 10 ^ (n - 1) ≤ numD D 0 n := by
    obtain ⟨c, rfl⟩ : ∃ c, n = c + 1 := ⟨n - 1, by omega⟩
    exact numD_lead h0
  have HR1 : Hid (numD D 0 n * 10 ^ (lcS k).length < 5 ^ k * 10 ^ n → numD D 0 n * 2 ^ k < 10 ^ (n + (lcD k - 1)) ∧ 10 ^ (n + (lcD k - 1) - 1) ≤ numD D 0 n * 2 ^ k) := fun hh => by
    refine ⟨less_bound hh rfl ch.len ch.d1, ?_⟩
    have h1 := Nat.mul_le_mul hV0 ch.lo
    rw [← Nat.pow_add] at h1
    rwa [show n - 1 + (lcD k - 1) = n + (lcD k - 1) - 1 by omega] at h1
  have HR2 : Hid (5 ^ k * 10 ^ n ≤ numD D 0 n * 10 ^ (lcS k).length → numD D 0 n * 2 ^ k < 10 ^ (n + lcD k) ∧ 10 ^ (n + lcD k - 1) ≤ numD D 0 n * 2 ^ k) := fun hh => by
    refine ⟨?_, ?_⟩
    · have h1 := numD_lt (D := D) (c := n) (a := 0) (by rw [Nat.zero_add]; exact hD)
      rw [Nat.pow_add]
      exact Nat.lt_of_lt_of_le (Nat.mul_lt_mul_of_pos_right h1 (Nat.two_pow_pos k)) (Nat.mul_le_mul_left _ (Nat.le_of_lt ch.hi))
    · have h1 := notless_bound hh rfl ch.len ch.d1
      rwa [show n + (lcD k - 1) = n + lcD k - 1 by have := ch.d1; omega] at h1
  have hd1 := ch.d1
  have hd2 := ch.d2
  have HE := Lib.hid hE
  have HDg := Lib.hid hD
  clear ch hV0 hS hSd hSz hD hE t2
  generalize lcD k = dl at *
  go_enter Tryz.func131, Tryz.ntmps131
  go_wp2_with fail
  obtain ⟨r, hr⟩ : ∃ r, decide (numD D 0 n * 10 ^ (lcS k).length < 5 ^ k * 10 ^ n) = r := ⟨_, rfl⟩
  rw [hr] at HLs
  obtain ⟨δ, hδ, hδ2, hδ3, HV⟩ : ∃ δ : Nat, δ ≤ dl ∧ (r = true → (dl : Int) - 1 = (δ : Int)) ∧ (r = false → dl = δ) ∧ Hid (numD D 0 n * 2 ^ k < 10 ^ (n + δ) ∧ 10 ^ (n + δ - 1) ≤ numD D 0 n * 2 ^ k) := by
    cases r with
    | true => exact ⟨dl - 1, by omega, fun _ => by omega, (fun h => by cases h), HR1.out (of_decide_eq_true hr)⟩
    | false => exact ⟨dl, by omega, (fun h => by cases h), fun _ => rfl, HR2.out (Nat.not_lt.1 (of_decide_eq_false hr))⟩
  clear hr HR1 HR2
  go_quiet ((go_at_call 143; exact Calls.quiet_of (HLs.out _)))
  have H1 : Hid (Dec w0 (w.drewN nq) B D n p) := H0.out.drewN nq
  clear HLs t1 t3 t4 c1 h H0
  generalize w.drewN nq = w1 at *
  have c1 := H1.out.nd
  have HI0 : Hid (LeftI D n δ k n (n + δ) 0 D) := ⟨rfl, Nat.le_refl _, fun _ _ => rfl, fun j h1 h2 => absurd h2 (by omega), by rw [Nat.sub_self, Nat.zero_mul]; show 0 + 0 = 0 * 2 ^ k; rw [Nat.zero_mul], Nat.two_pow_pos k⟩
  have hk3 : 2 ^ k ≤ 1152921504606846976 := Nat.pow_le_pow_right (n := 2) (by decide) hk2
  have hkk : (k : Int) < 64 := by omega
  have HK := Lib.hid hk3
  have hnd8 : n + δ ≤ 719 := by omega
  clear hk3
  cases r
  case' true =>
    have e1 : (dl : Int) - 1 = (δ : Int) := hδ2 rfl
  case' false =>
    have e1 : (dl : Int) = (δ : Int) := by have := hδ3 rfl; omega
  all_goals
    clear hδ2 hδ3
    go_wp2_with fail
    go_loopw [5, 6, 7] (fun v5 v6 v7 wr => ∃ (r t m : Nat) (z : Int) (E : Nat → Nat), v5 = .int .i64 z ∧ Hid (z = (r : Int) - 1) ∧ v6 = .int .i64 t ∧ v7 = .int .u64 m ∧ m ≤ 1152921504606846976 ∧ Hid (LeftI D n δ k r t m E) ∧ Hid (Dec w0 wr B E n p)) (fun v5 _ _ _ => (intOf v5 + 1).toNat)
    case atStart => exact ⟨n, n + δ, 0, _, D, rfl, rfl, by simp, rfl, by omega, HI0, H1⟩
    case round =>
      clear H1 HI0 c1
      obtain ⟨r, t, m, z, E, rfl, hz, rfl, rfl, hm, HI, H1⟩ := hrel
      have hrn := HI.out.rn
      have htr := Lib.hid HI.out.tr
      rcases Nat.eq_zero_or_pos r with h0r | h0r
      · subst h0r
        obtain rfl : z = -1 := by have := hz.out; omega
        have HJ0 := Lib.hid HI.out.over
        clear HI htr hrn hz
        go_wp2_with fail
        go_loopw [6, 7] (fun v6 v7 wq => ∃ (t m : Nat) (E : Nat → Nat), v6 = .int .i64 t ∧ v7 = .int .u64 m ∧ m ≤ 1152921504606846976 ∧ Hid (LeftJ n δ (numD D 0 n * 2 ^ k) t m E) ∧ Hid (Dec w0 wq B E n p)) (fun _ v7 _ => (intOf v7).toNat)
        case atStart => exact ⟨t, m, E, rfl, rfl, hm, HJ0, H1⟩
        case round =>
          clear H1 HJ0 hm
          obtain ⟨t, m, E, rfl, rfl, hm, HJ, H1⟩ := hrel
          rcases Nat.eq_zero_or_pos m with hm0 | hm0
          · subst hm0
            have hfin := HJ.out.done HV.out.2 hn
            have HFd := Lib.hid hfin.1
            have HFl := Lib.hid hfin.2
            have c1 := H1.out.nd
            have f1 := H1.out.fr 800
            have H2' : Dec w0 (wr.setCell ⟨B, 800, none⟩ (.int .i64 ((n : Int) + (δ : Int)))) B E (n + δ) p := by
              have := H1.out.setN (n + δ)
              simpa using this
            have c4 := H2'.dp
            have f4 := H2'.fr 801
            have c5' : (wr.setCell ⟨B, 800, none⟩ (.int .i64 ((n : Int) + (δ : Int)))).cell? ⟨B, 800, none⟩ = some (.int .i64 ((n : Int) + (δ : Int))) := World.cell?_setCell_same _ _ _ c1
            have HT := Lib.hid (trimD_any w0 _ B E (n + δ) _ (H2'.setP ((p : Int) + (δ : Int))) (by omega) (by omega) HFl.out)
            clear hfin HJ
            go_wp2_with fail
            refine HT.out.mono ?_
            rintro e w2 ⟨rfl, m2, hm1, hm2, h4⟩
            have HD4 : Hid (Dec w0 w2 B E m2 ((p + δ : Nat) : Int)) := by
              show Dec _ _ _ _ _ _
              rw [Int.natCast_add]; exact h4
            clear h4 H2' HT
            go_wp2_with fail
            go_end0
            exact ⟨rfl, E, m2, p + δ, HD4.out, hm1, by omega, by omega, fun j h1 h2 => HFd.out j h1 (by omega), HFl.out⟩
          · have ht0 := HJ.out.pos HV.out.1 hm0
            obtain ⟨t0, rfl⟩ : ∃ t0, t = t0 + 1 := ⟨t - 1, by omega⟩
            have htd := HJ.out.td
            have ht8 : t0 < 800 := by omega
            have c2 := H1.out.byt t0 ht8
            have f2 := H1.out.fr t0
            have HS := HJ.out.step
            obtain ⟨a, ha⟩ : ∃ a, m / 10 = a := ⟨_, rfl⟩
            obtain ⟨ρ, hρ⟩ : ∃ ρ, m % 10 = ρ := ⟨_, rfl⟩
            rw [ha, hρ] at HS
            have hqi : (m : Int) / 10 = (a : Int) := by omega
            have hri : (m : Int) - 10 * (a : Int) = (ρ : Int) := by omega
            have hρ9 : ρ ≤ 9 := by omega
            have ha2 : a ≤ 1152921504606846976 := by omega
            have ham : a < m := by omega
            have hm1 : (0 : Int) < (m : Int) := by omega
            have HS2 := Lib.hid HS
            have H2' : Dec w0 (wr.setCell ⟨B, t0, none⟩ (.int .u8 ((ρ : Int) + 48))) B (upd E t0 (ρ + 48)) n p := by
              have := H1.out.set ht8 (ρ + 48) (by omega)
              simpa using this
            have H2 := Lib.hid H2'
            generalize E t0 = y at *
            clear ha hρ HS HJ H2' ht0 htd
            go_wp2_with fail
            go_roundw
            case rel => exact ⟨t0, a, _, by go_num, rfl, ha2, HS2, H2⟩
            case measure => simp [intOf]; omega
      · obtain ⟨i, rfl⟩ : ∃ i, r = i + 1 := ⟨r - 1, by omega⟩
        obtain rfl : z = (i : Int) := by have := hz.out; omega
        obtain ⟨t0, rfl⟩ : ∃ t0, t = t0 + 1 := ⟨t - 1, by have := htr.out; omega⟩
        have ht8 : t0 < 800 := by have := htr.out; omega
        have hi8 : i < 800 := by omega
        have hdi := HDg.out i (Nat.zero_le _) (by omega)
        obtain ⟨d, hd⟩ : ∃ d, D i = d + 48 := ⟨D i - 48, by omega⟩
        have hd9 : d ≤ 9 := by omega
        have c1 : wr.cell? ⟨B, i, none⟩ = some (.int .u8 ((d : Int) + 48)) := by
          have := H1.out.byt i (by omega)
          rw [HI.out.same i (by omega), hd] at this
          simpa using this
        have c2 := H1.out.byt t0 ht8
        have f2 := H1.out.fr t0
        have HS := HI.out.step HDg.out
        rw [hd, Nat.add_sub_cancel] at HS
        obtain ⟨X, hX⟩ : ∃ X, d * 2 ^ k = X := ⟨_, rfl⟩
        have hX2 : X ≤ 10376293541461622784 := by
          have h1 : d * 2 ^ k ≤ 9 * 1152921504606846976 := Nat.mul_le_mul hd9 HK.out
          omega
        have hXi : (d : Int) * 2 ^ k = (X : Int) := by rw [← hX]; simp
        have hXw : IntKind.u64.wrap (X : Int) = (X : Int) := by rw [IntKind.wrap_u64]; omega
        rw [hX] at HS
        obtain ⟨A, hA⟩ : ∃ A, m + X = A := ⟨_, rfl⟩
        rw [hA] at HS
        have hAi : (m : Int) + (X : Int) = (A : Int) := by omega
        have hA2 : A ≤ 11529215046068469760 := by omega
        obtain ⟨a, ha⟩ : ∃ a, A / 10 = a := ⟨_, rfl⟩
        obtain ⟨ρ, hρ⟩ : ∃ ρ, A % 10 = ρ := ⟨_, rfl⟩
        rw [ha, hρ] at HS
        have hqi : (A : Int) / 10 = (a : Int) := by omega
        have hri : (A : Int) - 10 * (a : Int) = (ρ : Int) := by omega
        have hρ9 : ρ ≤ 9 := by omega
        have ha2 : a ≤ 1152921504606846976 := by have := HS.lt; have := HK.out; omega
        have HS2 := Lib.hid HS
        have H2' : Dec w0 (wr.setCell ⟨B, t0, none⟩ (.int .u8 ((ρ : Int) + 48))) B (upd E t0 (ρ + 48)) n p := by
          have := H1.out.set ht8 (ρ + 48) (by omega)
          simpa using this
        have H2 := Lib.hid H2'
        clear H2'
        generalize E t0 = y at *
        clear hX hA ha hρ HS HI hd hdi htr hz
        go_wp2_with fail
        go_roundw
        case rel => exact ⟨i, t0, a, _, _, rfl, rfl, by go_num, rfl, ha2, HS2, H2⟩
        case measure => simp [intOf]
end Go.Proofs.YtmhgacgneckboaaGreatDoor
