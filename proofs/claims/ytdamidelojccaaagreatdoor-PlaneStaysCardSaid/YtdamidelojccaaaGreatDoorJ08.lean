import Derived.Test.YtdamidelojccaaaGreatDoorJ07
set_option maxHeartbeats 2000000
set_option maxRecDepth 100000
namespace Tre
open Go
def kidsTo (L : List Line) (D : Int) (a k : Nat) : List Nat := (List.range k).filter fun i => decide (a ≤ i) && decide (Zan L i = D)
theorem Ztg (L : List Line) (D : Int) (a : Nat) : kidsTo L D a a = [] := by
 unfold kidsTo;rw [List.filter_eq_nil_iff];intro i hi;have : i < a := by simpa using hi
 simp; omega
theorem kidsTo_succ (L : List Line) (D : Int) (a k : Nat) (h : a ≤ k) : kidsTo L D a (k + 1) = if Zan L k = D then kidsTo L D a k ++ [k] else kidsTo L D a k := by
 unfold kidsTo;rw [Ydn, Yco];by_cases hk : Zan L k = D
 · rw [Yan hk]; congr 1; simp [hk, h]
 · rw [Yab hk]; simp [hk]
theorem kidsTo_len (L : List Line) (D : Int) (a k : Nat) : (kidsTo L D a k).length ≤ k := by
 unfold kidsTo; exact Yas (Ycc _ _) (by simp)
theorem Zba {L : List Line} {D : Int} {a k i : Nat} : i ∈ kidsTo L D a k ↔ i < k ∧ a ≤ i ∧ Zan L i = D := by
 unfold kidsTo; simp [List.mem_filter]
def Zaq (L : List Line) : List Nat := kidsTo L 0 0 L.length
def kidsB (L : List Line) (i : Nat) : List Nat := kidsTo L (Zan L i + 1) (i + 1) (endB L i)
def iv (l : List Nat) : List Value := l.map fun k : Nat => Value.int .i64 (k : Int)
theorem Zaby {P : List Nat} {j : Nat} (h : j < P.length) : (iv P)[j]? = some (.int .i64 (P[j] : Int)) := by unfold iv; simp [h]
theorem Zbb (L : List Line) (i : Nat) (hi : i < L.length) : i + 1 ≤ endB L i ∧ endB L i ≤ L.length := Zagq L _ _ (by omega)
end Tre
namespace Go.Proofs.Zq
open Tryz
open Go Go.RowKit Go.Sort Tre
def Zgp (w : World) (P : List Nat) (e : Ending) (w' : World) : Prop :=
 ∃ A c, e = .returned (.slice A P.length c) ∧ P.length ≤ c ∧ c ≤ maxLen ∧ Rd w' 1 A P.length (iv P) ∧ Below w.heap.size w w'
theorem Zaeg : (prog.info? 3).map (fun i => (i.zero, i.size, i.bytes)) = some (some (.int .i64 0), 1, 8) := by kernel_rfl
theorem Zii {w : World} {base : Nat} {T : TypeId} {v : Value} {l : List Nat} {k : Nat} (h : w.ownsRow base T 1 v (l.length + 1) (iv l ++ [.int .i64 (k : Int)])) : w.ownsRow base T 1 v (l ++ [k]).length (iv (l ++ [k])) := by
 unfold iv at *; simpa using h
theorem Rd.intAt {w : World} {A : Option Addr} {P : List Nat} (h : Rd w 1 A P.length (iv P)) {i : Nat} (hi : i < P.length) :
 ∃ B O, A = some ⟨B, O, none⟩ ∧ B < w.heap.size ∧ (⟨B, O, none⟩ : Addr).add i = ⟨B, O + i, none⟩ ∧ w.cell? ⟨B, O + i, none⟩ = some (.int .i64 (P[i] : Int)) := by
 obtain ⟨ad, e, hb, hx⟩ := h.2 (by omega)
 have h0 := hx i _ (Zaby hi);have hs : ad.spot = none := by
  have h00 := hx 0 _ (Zaby (by omega : 0 < P.length))
  exact World.cell?_spot h00
 obtain ⟨B, O, sp⟩ := ad;obtain rfl : sp = none := hs;rw [Zae] at h0;exact ⟨B, O, e, hb, Zae _ _ _, h0⟩
theorem Zacm {d : Int} {la : Nat → ByteArray} : ∀ {L : List Line}, Zdd d la L = true → ∀ l ∈ L, Zbv l = true
 | [], _, _, h => by cases h
 | x :: r, hg, l, hl => by
   unfold Zdd at hg;split at hg
   · rename_i hok;rcases Yaw.1 hl with rfl | hl
     · unfold rgOk at hok; simp only [Yar] at hok; exact hok.1.1
     · exact Zacm hg l hl
   · cases hg
theorem Zsa {L : List Line} (h : Zab L = true) : ∀ l ∈ L, Zbv l = true := by
 unfold Zab at h; simp only [Yar] at h; exact Zacm h.2
theorem Zme {L : List Line} (h : Zab L = true) {n : Nat} (hn : n < L.length) : 0 ≤ L[n].depth ∧ L[n].depth < 16 := by
 have := Zsa h _ (Yat hn);unfold Zbv at this; simp only [Yar, Yao] at this;exact ⟨this.1.1.1.1, this.1.1.1.2⟩
theorem Zuz (A : Option Addr) (cap : Nat) (L : List Line) (w : World) (hR : Rd w 3 A L.length (lines L)) (hcap : L.length ≤ cap) (hc : cap ≤ maxLen) (hr : Zab L = true) :
 Calls prog 72 #[.slice A L.length cap, .int .i64 (-1)] w (Zgp w (Zaq L)) := by
 obtain ⟨i0, hi, hz0, hz1, hz2⟩ := info_parts Zaeg;have HC := Zhd (Zbe A cap L w hR hcap hc);have h200 := Zas hr;have HR := Zhd hR;have hRt : Hid (Zab L = true) := hr;unfold maxLen at hc;clear hR hr;unfold Zaq;go_enter func72, ntmps72;go_wp2_with fail;refine HC.out.mono ?_;rintro e w1 ⟨rfl, hb1⟩;clear HC;rw [hRt.out];have hng : decide ((L.length : Int) ≤ -1) = false := Yae (by omega)
 go_wp2;rw [show kidsTo L 0 0 L.length = kidsTo L (0 : Int) 0 L.length from rfl];go_loopw [8, 9] (fun v vk wr => ∃ k : Nat, vk = .int .i64 k ∧ 0 ≤ k ∧ k ≤ L.length ∧ wr.ownsRow w.heap.size 3 1 v (kidsTo L 0 0 k).length (iv (kidsTo L 0 0 k)) ∧ Below w.heap.size w wr) (fun _ vk _ => L.length - (intOf vk).toNat)
 case atStart => exact ⟨0, by go_num, by omega, by omega, by rw [Ztg]; exact World.ownsRow_nil _ _ _ _, hb1⟩
 case round =>
  clear hb1;obtain ⟨k, rfl, hak, hk, hown, hb⟩ := hrel;by_cases hlt : k < L.length
  · have hpl : k < L.length := by omega
    obtain ⟨B', Of', rfl, hab', hadd', y0, -, -⟩ := (HR.out.below hb).line hpl;have hst : Hid (kidsTo L 0 0 (k + 1) = if L[k].depth = 0 then kidsTo L 0 0 k ++ [k] else kidsTo L 0 0 k) := by
     show _ = _;rw [kidsTo_succ _ _ _ _ hak, Zaw hpl]
    have hlen := kidsTo_len L 0 0 k;generalize L[k].depth = x at *;by_cases hxD : x = 0
    · have HT : Hid (kidsTo L 0 0 (k + 1) = kidsTo L 0 0 k ++ [k]) := by show _ = _; rw [hst.out, Yan hxD]
      have hxb : (x == 0) = true := by rw [beq_iff_eq]; exact hxD
      clear hst hxD;generalize kidsTo L 0 0 k = sp at *;go_wp2_with (at_builtin; refine Zfn rfl _ _ 119 rfl w wr 3 i0 _ 1 8 underlying119 hi hz0 hz1 hz2 rfl (by decide) (by decide) hown hb rfl 1 1 [.int .i64 (k : Int)] rfl rfl (by simp; rfl) (by omega) ?_; intro v' w' hown' hb')
      go_roundw
      case rel =>
       refine ⟨k + 1, by go_num, by omega, by omega, ?_⟩
       rw [HT.out]
       first | exact ⟨Zii hown', hb'⟩ | exact Zii hown'
      case measure => simp [intOf]; omega
    · have HT : Hid (kidsTo L 0 0 (k + 1) = kidsTo L 0 0 k) := by show _ = _; rw [hst.out, Yab hxD]
      have hxb : (x == 0) = false := by rw [Yak]; exact hxD
      clear hst;go_wp2_with fail;go_roundw
      case rel => exact ⟨k + 1, by go_num, by omega, by omega, by rw [HT.out]; exact hown, hb⟩
      case measure => simp [intOf]; omega
  · obtain hkE : k = L.length := by omega
    subst hkE;have hlen := kidsTo_len L 0 0 (L.length);obtain ⟨A', c, rfl, hc1, hc2, hRd⟩ := Zbc hown;have K : Hid (Zgp w (kidsTo L 0 0 (L.length)) (.returned (.slice A' (kidsTo L 0 0 (L.length)).length c)) wr) := ⟨A', c, rfl, hc1, hc2, hRd, hb⟩;clear hown hRd hb;go_wp2;go_ret;exact K.out
theorem Znj (A : Option Addr) (cap : Nat) (L : List Line) (n : Nat) (w : World) (hR : Rd w 3 A L.length (lines L)) (hcap : L.length ≤ cap) (hc : cap ≤ maxLen) (hr : Zab L = true) (hn : n < L.length) :
 Calls prog 72 #[.slice A L.length cap, .int .i64 n] w (Zgp w (kidsB L n)) := by
 obtain ⟨i0, hi, hz0, hz1, hz2⟩ := info_parts Zaeg;have HC := Zhd (Zbe A cap L w hR hcap hc);have h200 := Zas hr;have HR := Zhd hR;have hEnd : Hid (∀ W, Below w.heap.size w W → Calls prog 48 #[.slice A L.length cap, .int .i64 n] W fun e w' => e = .returned (.int .i64 (endB L n : Nat)) ∧ Below W.heap.size W w') := fun W hb => by
  have := Zru A cap L n W (hR.below hb) hcap hc;rw [Zfc hr hn] at this; simpa using this
 have hRt : Hid (Zab L = true) := hr;have hel := Zbb L n hn;unfold maxLen at hc;have hdb := Zme hr hn;have hkb : kidsB L n = kidsTo L (L[n].depth + 1) (n + 1) (endB L n) := by unfold kidsB; rw [Zaw hn]
 rw [hkb];obtain ⟨d, hd⟩ : ∃ d, L[n].depth = d := ⟨_, rfl⟩;obtain ⟨E, hE⟩ : ∃ E, endB L n = E := ⟨_, rfl⟩;rw [hd] at hdb ⊢;rw [hE] at hEnd hel ⊢;have HD := Zhd hd;clear hR hr hkb hd hE;go_enter func72, ntmps72;go_wp2_with fail;refine HC.out.mono ?_;rintro e w1 ⟨rfl, hb1⟩;clear HC;rw [hRt.out];have hng : decide ((L.length : Int) ≤ (n : Int)) = false := Yae (by omega)
 obtain ⟨B, O, rfl, hab, hadd, x0, -, -⟩ := (HR.out.below hb1).line hn;have hs : ∀ m os, Calls prog 48 #[.slice (some ⟨B, O, none⟩) L.length cap, .int .i64 n] (grow (redrawn w1 m) os) fun e w' => e = .returned (.int .i64 (E : Nat)) ∧ ∃ p : Regrown, w' = grow (redrawn w1 p.d) p.os := fun m os => Calls.regrown_of (hEnd.out _ (Zaa hb1 (below_regrown w1 m os)))
 rw [HD.out] at x0;have b0 : ∀ m os, (grow (redrawn w1 m) os).cell? ⟨B, O + n * 3, none⟩ = some (.int .i64 d) := fun m os => cell_regrown x0 m os
 have HB1 := Zhd hb1;clear hEnd x0 hb1;go_wp2;refine wp_region_quiet_below (by kernel_rfl) (by kernel_rfl) ?_
 repeat (go_big_quiet_step ((go_at_call 48; exact hs _ _)))
 refine wpQuiet_nil ?_;intro _ hw';obtain ⟨⟨dq, osq⟩, hw''⟩ := hw';subst hw'';have hb1 : Below w.heap.size w (grow (redrawn w1 dq) osq) := Zaa HB1.out (below_regrown w1 dq osq);clear HB1 b0 hs;generalize grow (redrawn w1 dq) osq = w3 at *;go_wp2;have hel2 : n + 1 ≤ E ∧ E ≤ L.length := by omega
 go_loopw [8, 9] (fun v vk wr => ∃ k : Nat, vk = .int .i64 k ∧ (n + 1) ≤ k ∧ k ≤ E ∧ wr.ownsRow w.heap.size 3 1 v (kidsTo L (d + 1) (n + 1) k).length (iv (kidsTo L (d + 1) (n + 1) k)) ∧ Below w.heap.size w wr) (fun _ vk _ => E - (intOf vk).toNat)
 case atStart => exact ⟨(n + 1), by go_num, by omega, by omega, by rw [Ztg]; exact World.ownsRow_nil _ _ _ _, hb1⟩
 case round =>
  clear hb1;obtain ⟨k, rfl, hak, hk, hown, hb⟩ := hrel;by_cases hlt : k < E
  · have hpl : k < L.length := by omega
    obtain ⟨B', Of', hA', hab', hadd', y0, -, -⟩ := (HR.out.below hb).line hpl;injection hA' with hA'
    injection hA' with hBB hOO
    subst hBB hOO;have hst : Hid (kidsTo L (d + 1) (n + 1) (k + 1) = if L[k].depth = (d + 1) then kidsTo L (d + 1) (n + 1) k ++ [k] else kidsTo L (d + 1) (n + 1) k) := by
     show _ = _;rw [kidsTo_succ _ _ _ _ hak, Zaw hpl]
    have hlen := kidsTo_len L (d + 1) (n + 1) k;generalize L[k].depth = x at *;by_cases hxD : x = (d + 1)
    · have HT : Hid (kidsTo L (d + 1) (n + 1) (k + 1) = kidsTo L (d + 1) (n + 1) k ++ [k]) := by show _ = _; rw [hst.out, Yan hxD]
      have hxb : (x == (d + 1)) = true := by rw [beq_iff_eq]; exact hxD
      clear hst hxD;generalize kidsTo L (d + 1) (n + 1) k = sp at *;go_wp2_with (at_builtin; refine Zfn rfl _ _ 119 rfl w wr 3 i0 _ 1 8 underlying119 hi hz0 hz1 hz2 rfl (by decide) (by decide) hown hb rfl 1 1 [.int .i64 (k : Int)] rfl rfl (by simp; rfl) (by omega) ?_; intro v' w' hown' hb')
      go_roundw
      case rel =>
       refine ⟨k + 1, by go_num, by omega, by omega, ?_⟩
       rw [HT.out]
       first | exact ⟨Zii hown', hb'⟩ | exact Zii hown'
      case measure => simp [intOf]; omega
    · have HT : Hid (kidsTo L (d + 1) (n + 1) (k + 1) = kidsTo L (d + 1) (n + 1) k) := by show _ = _; rw [hst.out, Yab hxD]
      have hxb : (x == (d + 1)) = false := by rw [Yak]; exact hxD
      clear hst;go_wp2_with fail;go_roundw
      case rel => exact ⟨k + 1, by go_num, by omega, by omega, by rw [HT.out]; exact hown, hb⟩
      case measure => simp [intOf]; omega
  · obtain hkE : E = k := by omega
    subst hkE;have hlen := kidsTo_len L (d + 1) (n + 1) (E);obtain ⟨A', c, rfl, hc1, hc2, hRd⟩ := Zbc hown;have K : Hid (Zgp w (kidsTo L (d + 1) (n + 1) (E)) (.returned (.slice A' (kidsTo L (d + 1) (n + 1) (E)).length c)) wr) := ⟨A', c, rfl, hc1, hc2, hRd, hb⟩;clear hown hRd hb;go_wp2;go_ret;exact K.out
end Go.Proofs.Zq
namespace Prs
open Go Go.Lib Tre Lx
structure Nd where
 line : Line
 up : Int
def Nd.cells (n : Nd) : List Value := n.line.cells ++ [.int .i64 n.up]
def Nd.agg (n : Nd) : Value := .agg #[.int .i64 n.line.depth, .string n.line.word, .int .i64 n.line.mark, .int .i64 n.up]
def nds (l : List Nd) : List Value := l.flatMap Nd.cells
theorem Zafs (l m : List Nd) : nds (l ++ m) = nds l ++ nds m := by unfold nds; simp
theorem Zava (e : Nd) : nds [e] = e.cells := by unfold nds; simp
theorem Zame (L : List Nd) (i j : Nat) (hi : i < L.length) (hj : j < 4) : (nds L)[i * 4 + j]? = (L[i].cells)[j]? := by
 unfold nds
 induction L generalizing i with
 | nil => simp at hi
 | cons e L ih =>
   have he : e.cells.length = 4 := by simp [Nd.cells, Line.cells]
   cases i with
   | zero => rw [Ybt, Ycf (by rw [he]; omega)]; simp
   | succ i =>
     rw [Ybt, Ybh (by rw [he]; omega), show (i + 1) * 4 + j - e.cells.length = i * 4 + j by rw [he]; omega]
     simpa using ih i (by simpa using hi)
structure Pst where
 l : List Tok
 nodes : List Nd
 opn : List Nat
def topB (o : List Nat) : Int := match o.getLast? with | some k => (k : Int) | none => -1
def Zca (en : Int) (l : List Tok) : Int × Int := match l with | [] => (0, en) | t :: _ => (t.kind, t.at_)
theorem Zajg (en : Int) : ∀ (l : List Tok) (h : 0 < l.length), Zca en l = (l[0].kind, l[0].at_)
 | _ :: _, _ => rfl
theorem Zasf (en : Int) : ∀ (l : List Tok), ¬ 0 < l.length → Zca en l = (0, en)
 | [], _ => rfl
 | _ :: _, h => absurd (by simp) h
def Zce : Int → List Tok → Int × Bool × List Tok
 | b, [] => (b, false, [])
 | b, t :: r => if t.kind = 5 then (if bits .and .i64 b t.bit ≠ 0 then (0, false, t :: r) else Zce (bits .or .i64 b t.bit) r) else (b, decide (t.kind = 1), t :: r)
def Zub (nodes : List Nd) (up : Int) (s : ByteArray) : Bool := nodes.any fun n => decide (n.up = up) && decide (n.line.word = s)
def nameB (mark : Int) (p : Pst) : Int × Pst :=
 match p.l with
 | [] => (0, p)
 | t :: r =>
   if 16 ≤ p.opn.length then (6, p)
   else if Zub p.nodes (topB p.opn) t.word then (4, p)
   else if 200 ≤ p.nodes.length then (5, p)
   else (0, ⟨r, p.nodes ++ [⟨⟨p.opn.length, t.word, mark⟩, topB p.opn⟩], p.opn⟩)
def Zwd (en : Int) (p : Pst) : Int × Int × Pst :=
 if (Zca en p.l).1 = 2 then (0, 0, ⟨p.l.drop 1, p.nodes, p.opn ++ [p.nodes.length - 1]⟩)
 else if (Zca en p.l).1 = 4 then (0, 0, ⟨p.l.drop 1, p.nodes, p.opn⟩)
 else ((Zca en p.l).2, 2, p)
def Zot (en : Int) (p : Pst) : Int × Int × Pst :=
 let m := Zce 0 p.l
 let q : Pst := ⟨m.2.2, p.nodes, p.opn⟩
 if m.2.1 = false then ((Zca en q.l).2, 2, q)
 else if (nameB m.1 q).1 ≠ 0 then ((Zca en q.l).2, (nameB m.1 q).1, q)
 else Zwd en (nameB m.1 q).2
def stB (en : Int) (p : Pst) : Int × Int × Pst :=
 if (Zca en p.l).1 = 3 then (if p.opn.length = 0 then ((Zca en p.l).2, 2, p) else (0, 0, ⟨p.l.drop 1, p.nodes, p.opn.take (p.opn.length - 1)⟩))
 else Zot en p
end Prs
namespace Go.Proofs.Zq
open Tryz
open Go Go.RowKit Go.Sort Tre Lx Prs
def RdB (B : Nat) (w : World) (k : Nat) (A : Option Addr) (n : Nat) (xs : List Value) : Prop :=
 xs.length = n * k ∧ (0 < n → ∃ ad, A = some ad ∧ ad.block < B ∧ ∀ j u, xs[j]? = some u → w.cell? (ad.add j) = some u)
theorem RdB.below {B : Nat} {w w' : World} {k n : Nat} {A : Option Addr} {xs : List Value} (h : RdB B w k A n xs) (hb : Below B w w') : RdB B w' k A n xs :=
 ⟨h.1, fun hn => by
  obtain ⟨ad, e, hl, hx⟩ := h.2 hn;exact ⟨ad, e, hl, fun j u hu => (hb.cell (by rw [Zgo]; exact hl)).trans (hx j u hu)⟩⟩
theorem RdB.of {w : World} {k n : Nat} {A : Option Addr} {xs : List Value} (h : Rd w k A n xs) : RdB w.heap.size w k A n xs := h
theorem Znf {w : World} {g k : Nat} {cs : Array Value} {T : TypeId} {f : Nat × Nat} (h : w.heap[g]? = some (.cells cs T f)) (v : Value) : (w.setCell ⟨g, k, none⟩ v).heap[g]? = some (.cells (cs.set! k v) T f) := by
 simp [World.setCell, Array.getElem?_modify, h]
theorem Zjp {w : World} {base g k : Nat} {e T : TypeId} {sz n : Nat} {v : Value} {xs : List Value} {cs : Array Value} {f : Nat × Nat} (h : w.ownsRow base e sz v n xs) (hg : w.heap[g]? = some (.cells cs T f)) (hT : T ≠ e) (u : Value) : (w.setCell ⟨g, k, none⟩ u).ownsRow base e sz v n xs :=
 ⟨h.1, h.2.imp id fun ⟨q, cap, cur, h1, h2, h3, h4⟩ => ⟨q, cap, cur, h1, h2, by
  rw [Below.heap_setCell]
  · exact h3
  · intro e';change q = g at e';rw [e', hg] at h3;injection h3 with h3
    injection h3 with _ h5
    exact hT h5, h4⟩⟩
theorem Zahp {w : World} {base : Nat} {e : TypeId} {sz n : Nat} {A : Option Addr} {c : Nat} {xs : List Value} (h : w.ownsRow base e sz (.slice A n c) n xs) {m : Nat} (hm : m ≤ n) (h0 : 0 < n) : w.ownsRow base e sz (.slice A m c) m (xs.take (m * sz)) := by
 refine ⟨?_, ?_⟩
 · rw [Yad, h.1]; exact Ybb (Yet _ hm)
 · rcases h.2 with ⟨-, h2⟩ | ⟨g, cap, cur, h1, h2, h3, h4, h5, h6, h7⟩
   · omega
   · injection h1 with e1 e2 e3
     subst e1;subst e3;refine .inr ⟨g, c, cur, rfl, h2, h3, by omega, h5, h6, ?_⟩
     rw [← h7, Ycu];congr 1;exact (Ybb (Yet _ hm)).symm
def Psr (B g : Nat) (en : Int) (p : Pst) (Al : Option Addr) (cl : Nat) (vn vo : Value) (W : World) : Prop :=
 W.heap[g]? = some (.cells #[.slice Al p.l.length cl, .int .i64 en, vn, vo] 121 (0, 0)) ∧ B ≤ g ∧ p.l.length ≤ cl ∧ cl ≤ maxLen ∧ RdB B W 4 Al p.l.length (toks p.l) ∧
 W.ownsRow B 164 4 vn p.nodes.length (nds p.nodes) ∧ W.ownsRow B 3 1 vo p.opn.length (iv p.opn)
def Zwo (B g : Nat) (en : Int) (p : Pst) (W : World) : Prop := ∃ Al cl vn vo, Psr B g en p Al cl vn vo W
section
variable {B g : Nat} {en : Int} {p : Pst} {Al : Option Addr} {cl : Nat} {vn vo : Value} {W : World}
theorem Psr.lt (h : Psr B g en p Al cl vn vo W) : g < W.heap.size := (Ybc.1 h.1).1
theorem Psr.cells (h : Psr B g en p Al cl vn vo W) : W.cell? ⟨g, 0, none⟩ = some (.slice Al p.l.length cl) ∧ W.cell? ⟨g, 1, none⟩ = some (.int .i64 en) ∧ W.cell? ⟨g, 2, none⟩ = some vn ∧ W.cell? ⟨g, 3, none⟩ = some vo := by
 refine ⟨?_, ?_, ?_, ?_⟩ <;> (rw [cell_of_row W g _ _ _ (0, 0) h.1]; rfl)
theorem Psr.frozen (h : Psr B g en p Al cl vn vo W) (o : Nat) : W.frozen? ⟨g, o, none⟩ = false := Lib.frozen_of_heap h.1 o
theorem Psr.slices (h : Psr B g en p Al cl vn vo W) : (∃ A c, vn = .slice A p.nodes.length c) ∧ (∃ A c, vo = .slice A p.opn.length c) := by
 obtain ⟨-, -, -, -, -, h1, h2⟩ := h;obtain ⟨A, c, e, -⟩ := Zbc h1;obtain ⟨A2, c2, e2, -⟩ := Zbc h2;exact ⟨⟨A, c, e⟩, A2, c2, e2⟩
theorem Psr.below {W' : World} (h : Psr B g en p Al cl vn vo W) (hb : Below W.heap.size W W') (hB : B ≤ W.heap.size) : Psr B g en p Al cl vn vo W' := by
 have hg := h.lt;obtain ⟨h1, h2, h3, h4, h5, h6, h7⟩ := h;exact ⟨(hb.block g hg).trans h1, h2, h3, h4, h5.below (hb.mono hB), Zah h6 hb, Zah h7 hb⟩
theorem Psr.setL (h : Psr B g en p Al cl vn vo W) {l : List Tok} {A : Option Addr} {c : Nat} (h1 : l.length ≤ c) (h2 : c ≤ maxLen) (h3 : RdB B W 4 A l.length (toks l)) : Psr B g en ⟨l, p.nodes, p.opn⟩ A c vn vo (W.setCell ⟨g, 0, none⟩ (.slice A l.length c)) := by
 obtain ⟨k1, k2, k3, k4, k5, k6, k7⟩ := h;exact ⟨Znf k1 _, k2, h1, h2, h3.below ((Yac _ _).setCell (p := ⟨g, 0, none⟩) k2 _), Zjp k6 k1 (by decide) _, Zjp k7 k1 (by decide) _⟩
theorem Psr.setO (h : Psr B g en p Al cl vn vo W) {o : List Nat} {v : Value} (h1 : W.ownsRow B 3 1 v o.length (iv o)) : Psr B g en ⟨p.l, p.nodes, o⟩ Al cl vn v (W.setCell ⟨g, 3, none⟩ v) := by
 obtain ⟨k1, k2, k3, k4, k5, k6, k7⟩ := h;exact ⟨Znf k1 _, k2, k3, k4, k5.below ((Yac _ _).setCell (p := ⟨g, 3, none⟩) k2 _), Zjp k6 k1 (by decide) _, Zjp h1 k1 (by decide) _⟩
theorem Psr.tok (h : Psr B g en p Al cl vn vo W) (h0 : 0 < p.l.length) : ∃ b o, Al = some ⟨b, o, none⟩ ∧ b < B ∧ ∀ i (hi : i < p.l.length), W.cell? ⟨b, o + i * 4, none⟩ = some (.int .i64 p.l[i].kind) ∧ W.cell? ⟨b, o + i * 4 + 1, none⟩ = some (.int .i64 p.l[i].at_) ∧ W.cell? ⟨b, o + i * 4 + 2, none⟩ = some (.string p.l[i].word) ∧ W.cell? ⟨b, o + i * 4 + 3, none⟩ = some (.int .i64 p.l[i].bit) := by
 obtain ⟨-, -, -, -, h5, -, -⟩ := h;obtain ⟨ad, e, hb, hx⟩ := h5.2 h0;have c : ∀ i (hi : i < p.l.length) j (_ : j < 4), W.cell? (ad.add (i * 4 + j)) = (p.l[i].cells)[j]? := fun i hi j hj => by
  have e2 := Zaoi p.l i j hi hj;have : ∃ u, (p.l[i].cells)[j]? = some u := ⟨_, Yag (by simp [Tok.cells]; omega)⟩
  obtain ⟨u, hu⟩ := this;rw [hu];exact hx _ u (by rw [e2]; exact hu)
 have hsp : ad.spot = none := by
  have h1 : W.cell? (ad.add (0 * 4 + 0)) = some (.int .i64 p.l[0].kind) := c 0 h0 0 (by omega)
  have h2 := World.cell?_spot h1;have h3 : ad.add (0 * 4 + 0) = ad := by simp [Addr.add]
  rwa [h3] at h2
 obtain ⟨b, o, sp⟩ := ad;simp only at hsp hb;subst hsp;refine ⟨b, o, e, hb, fun i hi => ?_⟩
 have c' := fun j hj => c i hi j hj
 simp only [Zae] at c';exact ⟨by have := c' 0 (by omega); simpa [Tok.cells] using this, by have := c' 1 (by omega); simpa [Tok.cells, Nat.add_assoc] using this, by have := c' 2 (by omega); simpa [Tok.cells, Nat.add_assoc] using this, by have := c' 3 (by omega); simpa [Tok.cells, Nat.add_assoc] using this⟩
end
theorem Zpj (B g : Nat) (en : Int) (p : Pst) (Al : Option Addr) (cl : Nat) (vn vo : Value) (W : World) (h : Psr B g en p Al cl vn vo W) :
 Calls prog 98 #[.pointer (some ⟨g, 0, none⟩)] W fun e w' => e = .returned (.tuple #[.int .i64 (Zca en p.l).1, .int .i64 (Zca en p.l).2]) ∧ ∃ n, w' = W.drewN n := by
 obtain ⟨c0, c1, -, -⟩ := h.cells;by_cases h0 : 0 < p.l.length
 · obtain ⟨b, o, rfl, -, hx⟩ := h.tok h0;obtain ⟨x0, x1, -, -⟩ := hx 0 h0;have hX : Hid (Zca en p.l = (p.l[0].kind, p.l[0].at_)) := Zajg en p.l h0;have hn : ((p.l.length : Int) == 0) = false := by rw [Yak]; omega
   have hi0 : (0 : Int) < (p.l.length : Int) := by omega
   simp only [Nat.zero_mul, Yef] at x0 x1;clear hx;generalize p.l[0] = t at *;go_enter func98, ntmps98;go_wp2_with fail;go_quiet (fail);go_wp2;go_ret2;exact ⟨by rw [hX.out]; rfl, _, rfl⟩
 · have hX : Hid (Zca en p.l = (0, en)) := Zasf en p.l h0;have hl0 : p.l.length = 0 := by omega
   rw [hl0] at c0;clear h h0 hl0;go_enter func98, ntmps98;go_wp2_with fail;go_quiet (fail);go_wp2;go_ret2;exact ⟨by rw [hX.out]; rfl, _, rfl⟩
theorem Psr.lastO {B g : Nat} {en : Int} {p : Pst} {Al : Option Addr} {cl : Nat} {vn vo : Value} {W : World} (h : Psr B g en p Al cl vn vo W) (h0 : 0 < p.opn.length) : ∃ b c, vo = .slice (some ⟨b, 0, none⟩) p.opn.length c ∧ p.opn.length ≤ c ∧ c ≤ maxLen ∧ W.cell? ⟨b, p.opn.length - 1, none⟩ = some (.int .i64 (topB p.opn)) := by
 obtain ⟨-, -, -, -, -, -, h7⟩ := h;rcases h7.2 with ⟨-, h2⟩ | ⟨q, cap, cur, h1, h2, h3, h4, h5, h6, h7'⟩
 · omega
 · refine ⟨q, cap, h1, h4, h5, ?_⟩;subst h1;have hq : p.opn.length - 1 < p.opn.length := by omega
   have := h7.cells (g := q) rfl (p.opn.length - 1) _ (Zaby hq);rw [Zae, Ybf] at this;rw [this];unfold topB;rw [Ydf, Yag hq]
theorem Zaqp {o : List Nat} (h : ¬ 0 < o.length) : topB o = -1 := by
 cases o with
 | nil => rfl
 | cons a l => exact absurd (by simp) h
theorem Zatg (B g : Nat) (en : Int) (p : Pst) (Al : Option Addr) (cl : Nat) (vn vo : Value) (W : World) (h : Psr B g en p Al cl vn vo W) :
 Calls prog 132 #[.pointer (some ⟨g, 0, none⟩)] W fun e w' => e = .returned (.int .i64 (topB p.opn)) ∧ ∃ n, w' = W.drewN n := by
 obtain ⟨-, -, -, c3⟩ := h.cells;by_cases h0 : 0 < p.opn.length
 · obtain ⟨b, c, rfl, hc1, hc2, hx⟩ := h.lastO h0;have hn : ((p.opn.length : Int) == 0) = false := by rw [Yak]; omega
   have hi0 : (0 : Int) ≤ (p.opn.length : Int) - 1 := by omega
   have hi1 : (p.opn.length : Int) - 1 < (p.opn.length : Int) := by omega
   unfold maxLen at hc2;have hi2 : (p.opn.length : Int) ≤ 9223372036854775807 := by omega
   clear h;generalize topB p.opn = z at *;go_enter func132, ntmps132;go_wp2_with fail;go_quiet (fail);go_wp2;go_ret;exact ⟨rfl, _, rfl⟩
 · have hX := Zhd (Zaqp h0);obtain ⟨-, A, c, rfl⟩ := h.slices;have hl0 : p.opn.length = 0 := by omega
   rw [hl0] at c3;clear h h0 hl0;go_enter func132, ntmps132;go_wp2;go_ret;exact ⟨by rw [hX.out]; rfl, 0, rfl⟩
theorem Psr.pop {B g : Nat} {en : Int} {p : Pst} {Al : Option Addr} {cl : Nat} {vn vo : Value} {W : World} (h : Psr B g en p Al cl vn vo W) {t : Tok} {r : List Tok} (hl : p.l = t :: r) :
 ∃ b o, Al = some ⟨b, o, none⟩ ∧ 1 ≤ cl ∧ r.length + 1 ≤ cl ∧
   (cl = 1 → r = [] ∧ Psr B g en ⟨[], p.nodes, p.opn⟩ (some ⟨b, o, none⟩) 0 vn vo (W.setCell ⟨g, 0, none⟩ (.slice (some ⟨b, o, none⟩) 0 0))) ∧
   (cl ≠ 1 → Psr B g en ⟨r, p.nodes, p.opn⟩ (some ⟨b, o + 4, none⟩) (cl - 1) vn vo (W.setCell ⟨g, 0, none⟩ (.slice (some ⟨b, o + 4, none⟩) r.length (cl - 1)))) := by
 have hlen : p.l.length = r.length + 1 := by rw [hl]; rfl
 obtain ⟨b, o, rfl, hb, hx⟩ := h.tok (by omega)
 have hk := h;obtain ⟨k1, k2, k3, k4, k5, k6, k7⟩ := h;refine ⟨b, o, rfl, by omega, by omega, fun h1 => ⟨Yaq (by omega), hk.setL (l := []) (Yaf _) (by unfold maxLen; omega) ⟨rfl, fun h0 => absurd h0 (by simp)⟩⟩, fun h1 => hk.setL (by omega) (by omega) ⟨Zzo _, fun h0 => ?_⟩⟩
 obtain ⟨ad, e, hb2, hx2⟩ := k5.2 (by omega)
 injection e with e
 subst e;refine ⟨_, rfl, hb, fun j u hu => ?_⟩
 have := hx2 (4 + j) u (by
  rw [hl, show t :: r = [t] ++ r from rfl, Zqj, Zacp, Ybh (by simp [Tok.cells])]
  simpa [Tok.cells] using hu)
 rw [Zae] at this ⊢;rw [Ydg];exact this
theorem Psr.head {B g : Nat} {en : Int} {p : Pst} {Al : Option Addr} {cl : Nat} {vn vo : Value} {W : World} (h : Psr B g en p Al cl vn vo W) {t : Tok} {r : List Tok} (hl : p.l = t :: r) :
 ∃ b o, Al = some ⟨b, o, none⟩ ∧ b < B ∧ W.cell? ⟨b, o, none⟩ = some (.int .i64 t.kind) ∧ W.cell? ⟨b, o + 1, none⟩ = some (.int .i64 t.at_) ∧ W.cell? ⟨b, o + 2, none⟩ = some (.string t.word) ∧ W.cell? ⟨b, o + 3, none⟩ = some (.int .i64 t.bit) := by
 have h0 : 0 < p.l.length := by rw [hl]; simp
 obtain ⟨b, o, e, hb, hx⟩ := h.tok h0;obtain ⟨x0, x1, x2, x3⟩ := hx 0 h0;have e0 : p.l[0] = t := by simp [hl]
 rw [e0] at x0 x1 x2 x3;exact ⟨b, o, e, hb, by simpa using x0, by simpa using x1, by simpa using x2, by simpa using x3⟩
def Zamz (g : Nat) (W : World) : Nat := match W.cell? ⟨g, 0, none⟩ with | some (.slice _ n _) => n | _ => 0
theorem Psr.len {B g : Nat} {en : Int} {p : Pst} {Al : Option Addr} {cl : Nat} {vn vo : Value} {W : World} (h : Psr B g en p Al cl vn vo W) : Zamz g W = p.l.length := by
 unfold Zamz;rw [h.cells.1]
theorem Psr.drewN {B g : Nat} {en : Int} {p : Pst} {Al : Option Addr} {cl : Nat} {vn vo : Value} {W : World} (h : Psr B g en p Al cl vn vo W) (n : Nat) : Psr B g en p Al cl vn vo (W.drewN n) := h
theorem Zam {B : Nat} {w w' : World} (h : Below B w w') (n : Nat) : Below B w (w'.drewN n) := ⟨h.os, h.tape, h.output, h.size, h.block⟩
theorem Zku {B g : Nat} {en : Int} {p : Pst} {Al : Option Addr} {cl : Nat} {vn vo : Value} {W w : World} (h : Below B w W) (hp : Psr B g en p Al cl vn vo W) (v : Value) : Below B w (W.setCell ⟨g, 0, none⟩ v) := h.setCell (p := ⟨g, 0, none⟩) hp.2.1 v
def Zvn (B g : Nat) (en : Int) (p : Pst) (vn vo : Value) (W : World) (e : Ending) (w' : World) : Prop :=
 e = .returned (.tuple #[.int .i64 (Zce 0 p.l).1, .bool (Zce 0 p.l).2.1]) ∧ (∃ Al cl, Psr B g en ⟨(Zce 0 p.l).2.2, p.nodes, p.opn⟩ Al cl vn vo w') ∧ Below B W w'
theorem Zabb (b : Int) {t : Tok} {r : List Tok} (h : t.kind ≠ 5) : Zce b (t :: r) = (b, decide (t.kind = 1), t :: r) := by
 unfold Zce; rw [Yab h]
theorem Zaag (b : Int) {t : Tok} {r : List Tok} (h : t.kind = 5) (h2 : bits .and .i64 b t.bit ≠ 0) : Zce b (t :: r) = (0, false, t :: r) := by
 unfold Zce; rw [Yan h, Yan h2]
theorem Zagb (b : Int) {t : Tok} {r : List Tok} (h : t.kind = 5) (h2 : bits .and .i64 b t.bit = 0) : Zce b (t :: r) = Zce (bits .or .i64 b t.bit) r := by
 conv => lhs; unfold Zce
 rw [Yan h, Yab (fun h => h h2)]
theorem Zakj (B g : Nat) (en : Int) (p : Pst) (Al : Option Addr) (cl : Nat) (vn vo : Value) (W : World) (h : Psr B g en p Al cl vn vo W) :
 Calls prog 99 #[.pointer (some ⟨g, 0, none⟩)] W (Zvn B g en p vn vo W) := by
 have HP := Zhd h;clear h;unfold Zvn;obtain ⟨R, hR⟩ : ∃ R, Zce 0 p.l = R := ⟨_, rfl⟩;rw [hR];have HR := Zhd hR;clear hR;go_enter func99, ntmps99;go_wp2;go_loopw [4] (fun v wr => ∃ (b : Int) (l : List Tok) (A : Option Addr) (c : Nat), v = .int .i64 b ∧ Hid (Psr B g en ⟨l, p.nodes, p.opn⟩ A c vn vo wr) ∧ Hid (Zce b l = R) ∧ Hid (Below B W wr)) (fun _ wr => Zamz g wr)
 case atStart => exact ⟨0, p.l, Al, cl, rfl, HP, HR, Yac _ _⟩
 case round =>
  clear HP HR;obtain ⟨b, l, A, c, rfl, HP, HR, HB⟩ := hrel;obtain ⟨c0, -, -, -⟩ := HP.out.cells;have HL := Zhd HP.out.len;cases l with
  | nil =>
    have HK : Hid (R = (b, false, [])) := by show _ = _; rw [← HR.out]; rfl
    have c0 : wr.cell? ⟨g, 0, none⟩ = some (.slice A 0 c) := c0;clear HR HL;go_wp2_with fail;go_quiet (fail);go_wp2;go_ret2;refine ⟨by rw [HK.out]; rfl, ⟨A, c, ?_⟩, Zam HB.out _⟩
    rw [HK.out];exact HP.out.drewN _
  | cons t r =>
    obtain ⟨b2, o, rfl, hbB, x0, -, -, x3⟩ := HP.out.head rfl;have c0 : wr.cell? ⟨g, 0, none⟩ = some (.slice (some ⟨b2, o, none⟩) (r.length + 1) c) := c0;obtain ⟨b3, o3, e3, hc1, hrc, HP1, HP2⟩ := HP.out.pop rfl;obtain ⟨rfl, rfl⟩ : b2 = b3 ∧ o = o3 := by cases e3; exact ⟨rfl, rfl⟩
    have hf0 := HP.out.frozen 0;have hpos : (0 : Int) < ((r.length + 1 : Nat) : Int) := by omega
    have hpos2 : (0 : Int) < (r.length : Int) + 1 := by omega
    have hb2 := Zku HB.out HP.out;by_cases hk : t.kind = 5
    · have q1 : (t.kind == 5) = true := beq_iff_eq.2 hk;by_cases ha : bits .and .i64 b t.bit = 0
      · have q2 : (bits .and .i64 b t.bit != 0) = false := by rw [ha]; rfl
        have HR2 : Hid (Zce (bits .or .i64 b t.bit) r = R) := by show _ = _; rw [← HR.out, Zagb b hk ha]
        clear HR hk ha;by_cases h1 : c = 1
        · obtain ⟨hr, hp3⟩ := HP1 h1;subst hr;have HP3 := Zhd hp3;have HB3 := Zhd (hb2 (.slice (some ⟨b2, o, none⟩) 0 0));have HL3 := Zhd HP3.out.len;have c0 : wr.cell? ⟨g, 0, none⟩ = some (.slice (some ⟨b2, o, none⟩) 1 c) := c0;subst h1;clear HP1 HP2 hb2 hp3 hpos hpos2;go_wp2;go_roundw
          case rel => exact ⟨_, [], _, _, rfl, HP3, HR2, HB3⟩
          case measure => rw [HL3.out, HL.out]; simp
        · have HP3 := Zhd (HP2 h1);have HB3 := Zhd (hb2 (.slice (some ⟨b2, o + 4, none⟩) r.length (c - 1)));have HL3 := Zhd HP3.out.len;have h1' : ¬ (1 = c) := fun e => h1 e.symm
          have hci : (1 : Int) ≤ (c : Int) := by omega
          have hcs : (c : Int) - 1 = ((c - 1 : Nat) : Int) := by omega
          clear HP1 HP2 hb2;go_wp2;go_roundw
          case rel => exact ⟨_, r, _, _, rfl, HP3, HR2, HB3⟩
          case measure => rw [HL3.out, HL.out]; simp
      · have q2 : (bits .and .i64 b t.bit != 0) = true := by rw [bne_iff_ne]; exact ha
        have HK : Hid (R = (0, false, t :: r)) := by show _ = _; rw [← HR.out, Zaag b hk ha]
        clear HR HP1 HP2 hb2 hk ha;go_wp2;go_ret2;refine ⟨by rw [HK.out]; rfl, ⟨some ⟨b2, o, none⟩, c, ?_⟩, HB.out⟩
        rw [HK.out];exact HP.out
    · have q1 : (t.kind == 5) = false := Yak.2 hk;have HK : Hid (R = (b, (t.kind == 1), t :: r)) := by
       show _ = _;rw [← HR.out, Zabb b hk];congr 1
      clear HR HP1 HP2 hb2 hk;go_wp2_with fail;go_quiet (fail);go_wp2;go_ret2;refine ⟨by rw [HK.out]; rfl, ⟨some ⟨b2, o, none⟩, c, ?_⟩, Zam HB.out _⟩
      rw [HK.out];exact HP.out.drewN _
end Go.Proofs.Zq
