/- Walks: the reference's Under, End, Equal, Small, Short, Kids (layer 3). Walks: the reference's Path and Find (layer 3). -/
import Derived.Laws.AppendOwnNone
import Derived.Test.YtjdknhalcpkeaaaGreatDoorJ05
namespace Tre
open Go
def smallB (L : List Line) : Bool := decide (L.length ≤ 220) && L.all fun l => decide (l.word.size ≤ 100)
def refKidsTo (L : List Line) (z : Int) (k : Nat) : List Nat := (List.range k).filter fun i => decide (underB L i = z)
def refKids (L : List Line) (z : Int) : List Nat := refKidsTo L z L.length
theorem refKidsTo_succ (L : List Line) (z : Int) (k : Nat) : refKidsTo L z (k + 1) = if underB L k = z then refKidsTo L z k ++ [k] else refKidsTo L z k := by
 unfold refKidsTo
 rw [List.range_succ, List.filter_append]
 by_cases hk : underB L k = z
 · rw [if_pos hk]; congr 1; simp [hk]
 · rw [if_neg hk]; simp [hk]
theorem refKidsTo_len (L : List Line) (z : Int) (k : Nat) : (refKidsTo L z k).length ≤ k := by
 unfold refKidsTo; exact Nat.le_trans (List.length_filter_le _ _) (by simp)
end Tre
namespace Go.Proofs.YtjdknhalcpkeaaaGreatDoor
open Go Go.RowKit Go.Sort Tre
theorem bytes_same {a b : ByteArray} (h : a.toList = b.toList) : a = b := ByteArray.ext (Array.toList_inj.1 (by rwa [Lib.toList_data, Lib.toList_data] at h))
set_option maxHeartbeats 1000000 in
set_option maxRecDepth 100000 in
theorem refUnder_lines (A : Option Addr) (cap : Nat) (L : List Line) (n : Nat) (w : World) (hR : Rd w 3 A L.length (lines L)) (hcap : L.length ≤ cap) (hc : cap ≤ maxLen) (hn : n < L.length) :
 Calls Tryz.prog 50 #[.slice A L.length cap, .int .i64 n] w fun e w' => e = .returned (.int .i64 (underB L n)) ∧ Below w.heap.size w w' := by
 have hlen : L.length ≤ maxLen := by omega
 have HR := Lib.hid hR
 unfold maxLen at hc hlen
 have HU : Hid (∀ D, depthAt L n = D → underB L n = underFrom L D n) := fun D h => by rw [← h]; rfl
 obtain ⟨B, O, rfl, hab, hadd, x0, -, -⟩ := hR.line hn
 have hDn : Hid (depthAt L n = L[n].depth) := depthAt_lt hn
 obtain ⟨D, hD⟩ : ∃ D, L[n].depth = D := ⟨_, rfl⟩
 rw [hD] at x0
 have HF : Hid (underB L n = underFrom L D n) := HU.out D (hDn.out.trans hD)
 clear hR hD hDn HU
 go_enter Tryz.func50, Tryz.ntmps50
 go_wp2
 go_loopw [5, 6] (fun vo vk wr => ∃ (k : Nat) (z : Int), vo = .int .i64 z ∧ vk = .int .i64 k ∧ k ≤ n ∧ Hid (underFrom L D k = z) ∧ ∃ q, wr = w.drewN q) (fun _ vk _ => n - (intOf vk).toNat)
 case atStart => exact ⟨0, -1, rfl, rfl, by omega, rfl, 0, rfl⟩
 case round =>
  obtain ⟨k, z, rfl, rfl, hk, HQ, q, rfl⟩ := hrel
  by_cases hlt : k < n
  · have hpl : k < L.length := by omega
    obtain ⟨B', O', hA', -, hadd', y0, -, -⟩ := HR.out.line hpl
    injection hA' with hA'
    injection hA' with hBB hOO
    subst hBB hOO
    have hst : Hid (underFrom L D (k + 1) = if D ≤ L[k].depth then z else (k : Int)) := by
     show _ = _
     rw [← depthAt_lt hpl, ← HQ.out]; rfl
    generalize L[k].depth = E at *
    by_cases hDE : D ≤ E
    · have HQ2 : Hid (underFrom L D (k + 1) = z) := by show _ = _; rw [hst.out, if_pos hDE]
      have hdd : decide (E < D) = false := decide_eq_false (by omega)
      clear HQ hst
      go_wp2_with fail
      go_quiet (fail)
      go_wp2
      go_roundw
      case rel => exact ⟨k + 1, z, rfl, by go_num, by omega, HQ2, _, rfl⟩
      case measure => simp [intOf]; omega
    · have HQ2 : Hid (underFrom L D (k + 1) = (k : Int)) := by show _ = _; rw [hst.out, if_neg hDE]
      have hdd : decide (E < D) = true := decide_eq_true (by omega)
      clear HQ hst
      go_wp2_with fail
      go_quiet (fail)
      go_wp2
      go_roundw
      case rel => exact ⟨k + 1, k, rfl, by go_num, by omega, HQ2, _, rfl⟩
      case measure => simp [intOf]; omega
  · obtain rfl : k = n := by omega
    have HE : Hid (underB L k = z) := by show _ = _; rw [HF.out, HQ.out]
    clear HF HQ
    go_wp2
    go_ret
    exact ⟨ret_int HE.out.symm, below_drewN (Below.refl _ _) _⟩
set_option maxHeartbeats 1000000 in
set_option maxRecDepth 100000 in
theorem refEnd_lines (A : Option Addr) (cap : Nat) (L : List Line) (n : Nat) (w : World) (hR : Rd w 3 A L.length (lines L)) (hcap : L.length ≤ cap) (hc : cap ≤ maxLen) (hn : n < L.length) :
 Calls Tryz.prog 24 #[.slice A L.length cap, .int .i64 n] w fun e w' => e = .returned (.int .i64 (endB L n : Nat)) ∧ Below w.heap.size w w' := by
 have hlen : L.length ≤ maxLen := by omega
 have HR := Lib.hid hR
 unfold maxLen at hc hlen
 obtain ⟨B, O, rfl, hab, hadd, x0, -, -⟩ := hR.line hn
 have hDn : Hid (depthAt L n = L[n].depth) := depthAt_lt hn
 obtain ⟨D, hD⟩ : ∃ D, L[n].depth = D := ⟨_, rfl⟩
 rw [hD] at x0
 have hDD : Hid (endB L n = endFrom L D (n + 1)) := by show _ = _; unfold endB; rw [hDn.out, hD]
 clear hR hD hDn
 go_enter Tryz.func24, Tryz.ntmps24
 go_wp2
 go_loopw [5] (fun vk wr => ∃ k : Nat, vk = .int .i64 k ∧ n < k ∧ k ≤ L.length ∧ Hid (endFrom L D (n + 1) = endFrom L D k) ∧ ∃ q, wr = w.drewN q) (fun vk _ => L.length - (intOf vk).toNat)
 case atStart => exact ⟨n + 1, by go_num, by omega, by omega, rfl, 0, rfl⟩
 case round =>
  obtain ⟨k, rfl, hnk, hk, HQ, q, rfl⟩ := hrel
  by_cases hlt : k < L.length
  · obtain ⟨B', O', hA', -, hadd', y0, -, -⟩ := HR.out.line hlt
    injection hA' with hA'
    injection hA' with hBB hOO
    subst hBB hOO
    have hgo : Hid (D < L[k].depth → endFrom L D (n + 1) = endFrom L D (k + 1)) := fun hd => HQ.out.trans (endFrom_step hlt hd)
    have hno : Hid (¬ D < L[k].depth → endB L n = k) := fun hd => hDD.out.trans (HQ.out.trans (endFrom_stop hlt hd))
    generalize L[k].depth = E at *
    by_cases hDE : D < E
    · have HQ2 := Lib.hid (hgo.out hDE)
      have hdd : decide (E ≤ D) = false := decide_eq_false (by omega)
      clear HQ hgo hno hDD
      go_wp2_with fail
      go_quiet (fail)
      go_wp2
      go_roundw
      case rel => exact ⟨k + 1, by go_num, by omega, by omega, HQ2, _, rfl⟩
      case measure => simp [intOf]; omega
    · have HF := Lib.hid (hno.out hDE)
      have hdd : decide (E ≤ D) = true := decide_eq_true (by omega)
      clear HQ hgo hno hDD
      go_wp2_with fail
      go_quiet (fail)
      go_wp2
      go_ret
      exact ⟨ret_int (by simp [HF.out]), below_drewN (below_drewN (Below.refl _ _) _) _⟩
  · obtain rfl : k = L.length := by omega
    have HF : Hid (endB L n = L.length) := hDD.out.trans (HQ.out.trans endFrom_end)
    clear HQ hDD
    go_wp2
    go_ret
    exact ⟨ret_int (by simp [HF.out]), below_drewN (Below.refl _ _) _⟩
set_option maxHeartbeats 1000000 in
set_option maxRecDepth 100000 in
theorem refEqual_any (A : Option Addr) (cap : Nat) (P : List ByteArray) (A2 : Option Addr) (cap2 : Nat) (Q : List ByteArray) (w : World) (hP : Rd w 1 A P.length (sv P)) (hQ : Rd w 1 A2 Q.length (sv Q)) (hp : P.length ≤ maxLen) (_hq : Q.length ≤ maxLen) :
 Calls Tryz.prog 51 #[.slice A P.length cap, .slice A2 Q.length cap2] w fun e w' => e = .returned (.bool (decide (P = Q))) ∧ Below w.heap.size w w' := by
 have HP := Lib.hid hP
 have HQ := Lib.hid hQ
 clear hP hQ
 unfold maxLen at hp _hq
 go_enter Tryz.func51, Tryz.ntmps51
 by_cases hl : P.length = Q.length
 · have hl2 : ((P.length : Int) == (Q.length : Int)) = true := by rw [beq_iff_eq, hl]
   go_wp2
   go_loopw [5] (fun vk wr => ∃ k : Nat, vk = .int .i64 k ∧ k ≤ P.length ∧ Hid (P.take k = Q.take k) ∧ ∃ q, wr = w.drewN q) (fun vk _ => P.length - (intOf vk).toNat)
   case atStart => exact ⟨0, rfl, by omega, (show P.take 0 = Q.take 0 by simp), 0, rfl⟩
   case round =>
    obtain ⟨k, rfl, hk, HT, q, rfl⟩ := hrel
    by_cases hlt : k < P.length
    · obtain ⟨B, O, rfl, hab, hadd, x0⟩ := HP.out.strAt hlt
      have hlt2 : k < Q.length := by omega
      obtain ⟨B', O', rfl, hab', hadd', y0⟩ := HQ.out.strAt hlt2
      cases he : P[k].toList == Q[k].toList with
      | true =>
        have hpq : P[k] = Q[k] := by
         exact bytes_same (beq_iff_eq.1 he)
        have HT2 : Hid (P.take (k + 1) = Q.take (k + 1)) := by
         show _ = _
         rw [List.take_add_one, List.take_add_one, HT.out, List.getElem?_eq_getElem hlt, List.getElem?_eq_getElem hlt2, hpq]
        clear HT hpq
        go_wp2_with fail
        go_quiet (fail)
        go_wp2
        go_roundw
        case rel => exact ⟨k + 1, by go_num, by omega, HT2, _, rfl⟩
        case measure => simp [intOf]; omega
      | false =>
        have hne : Hid (decide (P = Q) = false) := decide_eq_false (fun e => by
         have h1 : P[k] = Q[k] := by simp [e]
         rw [h1] at he
         simp at he)
        clear HT
        go_wp2_with fail
        go_quiet (fail)
        go_wp2
        go_ret
        exact ⟨ret_bool (by rw [hne.out]), below_drewN (below_drewN (Below.refl _ _) _) _⟩
    · have HE : Hid (decide (P = Q) = true) := decide_eq_true (by
       have := HT.out
       rwa [List.take_of_length_le (by omega), List.take_of_length_le (by omega)] at this)
      go_wp2
      go_ret
      exact ⟨ret_bool (by rw [HE.out]), below_drewN (Below.refl _ _) _⟩
 · have hl2 : ((P.length : Int) == (Q.length : Int)) = false := by rw [beq_eq_false_iff_ne]; omega
   have hne : Hid (decide (P = Q) = false) := decide_eq_false (fun e => hl (by rw [e]))
   go_wp2
   go_ret
   exact ⟨ret_bool (by rw [hne.out]), Below.refl _ _⟩
set_option maxHeartbeats 1000000 in
set_option maxRecDepth 100000 in
theorem small_lines (A : Option Addr) (cap : Nat) (L : List Line) (w : World) (hR : Rd w 3 A L.length (lines L)) (_hcap : L.length ≤ cap) (_hc : cap ≤ maxLen) :
 Calls Tryz.prog 9 #[.slice A L.length cap] w fun e w' => e = .returned (.bool (smallB L)) ∧ Below w.heap.size w w' := by
 have HR := Lib.hid hR
 have HX : Hid (smallB L = (decide (L.length ≤ 220) && L.all fun l => decide (l.word.size ≤ 100))) := rfl
 clear hR
 unfold maxLen at _hc
 go_enter Tryz.func9, Tryz.ntmps9
 by_cases h1 : 220 < L.length
 · have hz : (220 : Int) < (L.length : Int) := by omega
   have HF : Hid (smallB L = false) := by show _ = _; rw [HX.out, decide_eq_false (by omega)]; rfl
   go_wp2
   go_ret
   exact ⟨ret_bool (by rw [HF.out]), Below.refl _ _⟩
 · have hz : ¬ (220 : Int) < (L.length : Int) := by omega
   have HX2 : Hid (smallB L = L.all fun l => decide (l.word.size ≤ 100)) := by show _ = _; rw [HX.out, decide_eq_true (by omega), Bool.true_and]
   clear HX
   go_wp2
   go_loopw [3] (fun vk wr => ∃ k : Nat, vk = .int .i64 k ∧ k ≤ L.length ∧ Hid (smallB L = (L.drop k).all fun l => decide (l.word.size ≤ 100)) ∧ wr = w) (fun vk _ => L.length - (intOf vk).toNat)
   case atStart => exact ⟨0, rfl, by omega, HX2, rfl⟩
   case round =>
    clear HX2
    obtain ⟨k, rfl, hk, HQ, rfl⟩ := hrel
    by_cases hlt : k < L.length
    · obtain ⟨B, O, rfl, hab, hadd, -, x1, -⟩ := HR.out.line hlt
      have hst : Hid (smallB L = (decide (L[k].word.size ≤ 100) && (L.drop (k + 1)).all fun l => decide (l.word.size ≤ 100))) := by
       show _ = _
       rw [HQ.out, List.drop_eq_getElem_cons hlt, List.all_cons]
      clear HQ
      generalize L[k].word = x at *
      by_cases hx : 100 < x.size
      · have hz2 : (100 : Int) < (x.size : Int) := by omega
        have HF : Hid (smallB L = false) := by show _ = _; rw [hst.out, decide_eq_false (by omega)]; rfl
        clear hst
        go_wp2
        go_ret
        exact ⟨ret_bool (by rw [HF.out]), Below.refl _ _⟩
      · have hz2 : ¬ (100 : Int) < (x.size : Int) := by omega
        have HQ2 : Hid (smallB L = (L.drop (k + 1)).all fun l => decide (l.word.size ≤ 100)) := by show _ = _; rw [hst.out, decide_eq_true (by omega), Bool.true_and]
        clear hst
        go_wp2_with fail
        go_roundw
        case rel => exact ⟨k + 1, by go_num, by omega, HQ2, by first | rfl | trivial⟩
        case measure => simp [intOf]; omega
    · have HF : Hid (smallB L = true) := by show _ = _; rw [HQ.out, List.drop_eq_nil_of_le (by omega)]; rfl
      clear HQ
      go_wp2
      go_ret
      exact ⟨ret_bool (by rw [HF.out]), Below.refl _ _⟩
set_option maxHeartbeats 1000000 in
set_option maxRecDepth 100000 in
theorem refKids_lines (A : Option Addr) (cap : Nat) (L : List Line) (z : Int) (w : World) (hR : Rd w 3 A L.length (lines L)) (hcap : L.length ≤ cap) (hc : cap ≤ maxLen) (h300 : L.length ≤ 300) :
 Calls Tryz.prog 43 #[.slice A L.length cap, .int .i64 z] w (KidsEnd w (refKids L z)) := by
 obtain ⟨i0, hi, hz0, hz1, hz2⟩ := info_parts info_i64
 have HU : Hid (∀ (k : Nat) W, Below w.heap.size w W → k < L.length → Calls Tryz.prog 50 #[.slice A L.length cap, .int .i64 k] W fun e w' => e = .returned (.int .i64 (underB L k)) ∧ Below W.heap.size W w') := fun k W hb hk => refUnder_lines A cap L k W (hR.below hb) hcap hc hk
 have HK : Hid (refKids L z = refKidsTo L z L.length) := rfl
 unfold maxLen at hc
 clear hR
 go_enter Tryz.func43, Tryz.ntmps43
 go_wp2
 go_loopw [5, 6] (fun v vk wr => ∃ k : Nat, vk = .int .i64 k ∧ k ≤ L.length ∧ wr.ownsRow w.heap.size 3 1 v (refKidsTo L z k).length (iv (refKidsTo L z k)) ∧ Below w.heap.size w wr) (fun _ vk _ => L.length - (intOf vk).toNat)
 case atStart => exact ⟨0, rfl, by omega, World.ownsRow_nil _ _ _ _, Below.refl _ _⟩
 case round =>
  obtain ⟨k, rfl, hk, hown, hb⟩ := hrel
  by_cases hlt : k < L.length
  · have hst : Hid (refKidsTo L z (k + 1) = if underB L k = z then refKidsTo L z k ++ [k] else refKidsTo L z k) := refKidsTo_succ L z k
    have hlen := refKidsTo_len L z k
    have HUk := Lib.hid (HU.out k wr hb hlt)
    generalize underB L k = x at *
    generalize refKidsTo L z k = sp at *
    go_wp2_with fail
    refine HUk.out.mono ?_
    rintro e w3 ⟨rfl, hb3⟩
    have hown3 := own_below hown hb3
    have hb4 := below_step hb hb3
    clear hown hb hb3 HUk
    by_cases hxD : x = z
    · have HT : Hid (refKidsTo L z (k + 1) = sp ++ [k]) := by show _ = _; rw [hst.out, if_pos hxD]
      have hxb : (x == z) = true := by rw [beq_iff_eq]; exact hxD
      clear hst hxD
      go_wp2_with (at_builtin; refine app_new rfl _ _ 72 rfl w w3 3 i0 _ 1 8 Tryz.underlying72 hi hz0 hz1 hz2 rfl (by decide) (by decide) hown3 hb4 rfl 1 1 [.int .i64 (k : Int)] rfl rfl (by simp; rfl) (by omega) ?_; intro v' w' hown' hb')
      go_roundw
      case rel =>
       refine ⟨k + 1, by go_num, by omega, ?_⟩
       rw [HT.out]
       first | exact ⟨own_push_iv hown', hb'⟩ | exact own_push_iv hown'
      case measure => simp [intOf]; omega
    · have HT : Hid (refKidsTo L z (k + 1) = sp) := by show _ = _; rw [hst.out, if_neg hxD]
      have hxb : (x == z) = false := by rw [beq_eq_false_iff_ne]; exact hxD
      clear hst
      go_wp2_with fail
      go_roundw
      case rel =>
       refine ⟨k + 1, by go_num, by omega, ?_⟩
       rw [HT.out]
       first | exact ⟨hown3, hb4⟩ | exact hown3
      case measure => simp [intOf]; omega
  · obtain rfl : k = L.length := by omega
    have hlen := refKidsTo_len L z L.length
    obtain ⟨A', c, rfl, hc1, hc2, hRd⟩ := rd_own hown
    have K : Hid (KidsEnd w (refKids L z) (.returned (.slice A' (refKidsTo L z L.length).length c)) wr) := by
     rw [HK.out]; exact ⟨A', c, rfl, hc1, hc2, hRd, hb⟩
    clear hown hRd hb HK
    go_wp2
    go_ret
    exact K.out
end Go.Proofs.YtjdknhalcpkeaaaGreatDoor
namespace Tre
open Go
def refHit (L : List Line) (P : List ByteArray) (k : Nat) : Bool := decide (depthAt L k = (P.length : Int) - 1) && decide (pathB L k = P)
def refFindFrom (L : List Line) (P : List ByteArray) (k : Nat) : Nat → Int
 | 0 => -1
 | n + 1 => if refHit L P k then (k : Int) else refFindFrom L P (k + 1) n
def refFind (L : List Line) (P : List ByteArray) : Int := refFindFrom L P 0 L.length
end Tre
namespace Go.Proofs.YtjdknhalcpkeaaaGreatDoor
open Go Go.RowKit Go.Sort Tre
theorem app_src {P : Program} {ops : Array Oper} {rest : List Oper} {o : Oper} {a : Act} {Q : Exit → Act → World → Prop} (hgd : o.guard = none) (s x : Operand) (t : TypeId)
 (ho : o.op = .call { callee := .builtin .append, args := #[s, x], argTypes := #[t, t] })
 (w0 wr : World) (e : TypeId) (i : TypeInfo) (z : Value) (size bytes : Nat) (ht : P.underlying t = some (.slice e)) (hi : P.info? e = some i) (hz : i.zero = some z)
 (hsize : i.size = size) (hby : i.bytes = bytes) (hzs : z.cells.size = size) (hsz : 0 < size) (hb64 : bytes ≤ 64)
 {v : Value} {n : Nat} {xs : List Value} (hown : wr.ownsRow w0.heap.size e size v n xs) (hb : Below w0.heap.size w0 wr) (hs : a.eval s = v)
 (A : Option Addr) (m c : Nat) (news : List Value) (hx : a.eval x = .slice A m c) (hR : Rd wr size A m news) (hnil : A = none → c = 0) (h1 : ∀ u ∈ news, u.oneCell' = true)
 (hN : n + m ≤ 1000000000)
 (h : ∀ v' w', w'.ownsRow w0.heap.size e size v' (n + m) (xs ++ news) → Below w0.heap.size w0 w' → wpList P ops Q rest (a.put o.dst v') w') :
 wpList P ops Q (o :: rest) a wr := by
 have hbytes : (n + m) * bytes ≤ 140737488355328 := Nat.le_trans (Nat.mul_le_mul hN hb64) (by decide)
 rcases A with _ | ad
 · have hm : m = 0 := by
    rcases Nat.eq_zero_or_pos m with h0 | h0
    · exact h0
    · obtain ⟨ad, h, -⟩ := hR.2 h0
      cases h
   subst hm
   have hn : news = [] := List.eq_nil_of_length_eq_zero (by simpa using hR.1)
   subst hn
   obtain rfl := hnil rfl
   exact wpList_append_own_none hgd s x t ho w0.heap.size e i size ht hi v n xs hs hown hx (h v wr (by simpa using hown) hb)
 · refine wpList_append_own _ hgd s x t ho w0.heap.size e i z size bytes ht hi hz hsize hby hzs hsz v n xs hs hown ad m c news hx hR.1 ?_ h1 (by unfold maxLen; omega) hbytes hb.size ?_
   · intro j u hu
     obtain ⟨ad', e', -, hc⟩ := hR.cell hu
     injection e' with e'
     subst e'
     exact hc
   · intro v' w' hown' hg _
     exact h v' w' hown' (hb.grown hg hb.size fun q hq => (hown.lt q hq).1)
theorem own_rd_nil {w : World} {base : Nat} {e : TypeId} {k : Nat} {v : Value} {n : Nat} {xs : List Value} (h : w.ownsRow base e k v n xs) : ∃ A c, v = .slice A n c ∧ n ≤ c ∧ c ≤ maxLen ∧ Rd w k A n xs ∧ ((A = none → c = 0) ∧ Zd A) := by
 rcases h.2 with ⟨rfl, rfl⟩ | ⟨g, cap, cur, rfl, hg, hh, hnc, hcm, hsz, ht⟩
 · exact ⟨none, 0, rfl, Nat.le_refl _, by unfold maxLen; omega, Rd.of_own (base := base) (e := e) (c := 0) h, fun _ => rfl, zd_none⟩
 · exact ⟨some ⟨g, 0, none⟩, cap, rfl, hnc, hcm, Rd.of_own h, (fun h => by cases h), zd_some g⟩
theorem own_base {w : World} {base b2 : Nat} {e : TypeId} {k : Nat} {v : Value} {n : Nat} {xs : List Value} (h : w.ownsRow base e k v n xs) (hb : b2 ≤ base) : w.ownsRow b2 e k v n xs :=
 ⟨h.1, h.2.imp id fun ⟨g, cap, cur, h1, h2, h3⟩ => ⟨g, cap, cur, h1, Nat.le_trans hb h2, h3⟩⟩
def StrsEnd (w : World) (P : List ByteArray) (e : Ending) (w' : World) : Prop :=
 ∃ A c, e = .returned (.slice A P.length c) ∧ P.length ≤ c ∧ c ≤ maxLen ∧ Rd w' 1 A P.length (sv P) ∧ ((A = none → c = 0) ∧ Zd A) ∧ Below w.heap.size w w'
set_option maxHeartbeats 2000000 in
set_option maxRecDepth 100000 in
theorem refPath_lines (A : Option Addr) (cap : Nat) (L : List Line) (n : Nat) (w : World) (hR : Rd w 3 A L.length (lines L)) (hcap : L.length ≤ cap) (hc : cap ≤ maxLen) (h300 : L.length ≤ 300) (hn : n < L.length) :
 Calls Tryz.prog 22 #[.slice A L.length cap, .int .i64 n] w (StrsEnd w (pathB L n)) := by
 obtain ⟨i0, hi, hz0, hz1, hz2⟩ := info_parts info_string
 have HU : Hid (∀ (k : Nat) W, Below w.heap.size w W → k < L.length → Calls Tryz.prog 50 #[.slice A L.length cap, .int .i64 k] W fun e w' => e = .returned (.int .i64 (underB L k)) ∧ Below W.heap.size W w') := fun k W hb hk => refUnder_lines A cap L k W (hR.below hb) hcap hc hk
 have HP0 : Hid (pathB L n = (ups L (n + 1)).reverse ++ []) := by show _ = _; rw [List.append_nil]; rfl
 have HR := Lib.hid hR
 unfold maxLen at hc
 clear hR
 go_enter Tryz.func22, Tryz.ntmps22
 go_wp2
 go_loopw [1, 5] (fun vk v wr => ∃ (k : Nat) (z : Int) (O : List ByteArray), vk = .int .i64 z ∧ z + 1 = (k : Int) ∧ k ≤ n + 1 ∧ Hid (pathB L n = (ups L k).reverse ++ O) ∧ O.length + k ≤ n + 1 ∧ wr.ownsRow w.heap.size 9 1 v O.length (sv O) ∧ Below w.heap.size w wr) (fun vk _ _ => (intOf vk + 1).toNat)
 case atStart => exact ⟨n + 1, n, [], rfl, by omega, by omega, HP0, by simp, World.ownsRow_nil _ _ _ _, Below.refl _ _⟩
 case round =>
  clear HP0
  obtain ⟨k, z, O, rfl, hzk, hk, HQ, hO, hown, hb⟩ := hrel
  obtain ⟨A', c, rfl, hc1, hc2, hRd, hnz⟩ := own_rd_nil hown
  have hnil := hnz.1
  by_cases hk0 : k = 0
  · have hz : z = -1 := by omega
    subst hz
    have HF : Hid (O = pathB L n) := by
     show _ = _
     rw [HQ.out, hk0, ups_zero]; rfl
    have K : Hid (StrsEnd w (pathB L n) (.returned (.slice A' O.length c)) wr) := by
     rw [← HF.out]
     exact ⟨A', c, rfl, hc1, hc2, hRd, hnz, hb⟩
    clear HQ hzk HU HR HF hown hRd hb hc1 hc2 hnil hnz
    go_wp2
    go_ret
    exact K.out
  · obtain ⟨p, rfl⟩ : ∃ p, k = p + 1 := ⟨k - 1, by omega⟩
    obtain rfl : z = (p : Int) := by omega
    have hpl : p < L.length := by omega
    obtain ⟨B, Of, rfl, hab, hadd, -, x1, -⟩ := (HR.out.below hb).line hpl
    have hst : Hid (ups L (p + 1) = L[p].word :: ups L (underB L p + 1).toNat) := by
     show _ = _
     rw [ups_succ, wordAt_lt hpl]
    have hul := underB_lt L p
    have HUp := Lib.hid (fun W hb => HU.out p W hb hpl)
    generalize L[p].word = x at *
    generalize underB L p = u at *
    have HQ2 : Hid (pathB L n = (ups L (u + 1).toNat).reverse ++ ([x] ++ O)) := by
     show _ = _
     rw [HQ.out, hst.out, List.reverse_cons, List.append_assoc]
    have hbA : ∀ W, Below wr.heap.size wr W → Rd W 1 A' O.length (sv O) := fun W h => hRd.below h
    clear HQ hst HU hown hnz
    go_wp2_with (at_builtin; first | (refine app_src rfl _ _ 42 rfl wr w1 9 i0 _ 1 16 Tryz.underlying42 hi hz0 hz1 hz2 rfl (by decide) (by decide) hown1 hb1 rfl A' O.length c (sv O) rfl (hbA _ hb1) hnil (sv_one O) (by omega) ?_; intro v2 w2 hown2 hb2) | (refine app_new rfl _ _ 42 rfl wr wr 9 i0 _ 1 16 Tryz.underlying42 hi hz0 hz1 hz2 rfl (by decide) (by decide) (World.ownsRow_nil _ _ _ _) (Below.refl _ _) rfl 1 1 [.string x] rfl rfl (by simp; rfl) (by omega) ?_; intro v1 w1 hown1 hb1))
    have hb3 := below_step hb hb2
    refine (HUp.out _ hb3).mono ?_
    rintro e w3 ⟨rfl, hb4⟩
    have hown3 : w3.ownsRow w.heap.size 9 1 v2 ([x] ++ O).length (sv ([x] ++ O)) := by
     have h := own_below (own_base hown2 hb.size) hb4
     rw [show 0 + 1 + O.length = ([x] ++ O).length by simp; omega] at h
     exact h
    have hb5 := below_step hb3 hb4
    clear hb hbA hown1 hb1 hown2 hb2 hb3 hb4 HUp x1 hadd hab hRd hnil hc1 hc2
    go_wp2_with fail
    go_roundw
    case rel =>
     refine ⟨(u + 1).toNat, u, [x] ++ O, rfl, by omega, by omega, HQ2, by simp; omega, ?_⟩
     first | exact ⟨hown3, hb5⟩ | exact hown3
    case measure => simp [intOf]; omega
set_option maxHeartbeats 2000000 in
set_option maxRecDepth 100000 in
theorem refFind_lines (A : Option Addr) (cap : Nat) (L : List Line) (Ap : Option Addr) (cp : Nat) (P : List ByteArray) (w : World) (hR : Rd w 3 A L.length (lines L)) (hcap : L.length ≤ cap) (hc : cap ≤ maxLen) (h300 : L.length ≤ 300) (hP : Rd w 1 Ap P.length (sv P)) (hcp : P.length ≤ maxLen) :
 Calls Tryz.prog 23 #[.slice A L.length cap, .slice Ap P.length cp] w fun e w' => e = .returned (.int .i64 (refFind L P)) ∧ Below w.heap.size w w' := by
 have HPa : Hid (∀ (k : Nat) W, Below w.heap.size w W → k < L.length → Calls Tryz.prog 22 #[.slice A L.length cap, .int .i64 k] W (StrsEnd W (pathB L k))) := fun k W hb hk => refPath_lines A cap L k W (hR.below hb) hcap hc h300 hk
 have HEq : Hid (∀ (A2 : Option Addr) (c2 : Nat) (Q : List ByteArray) W, Below w.heap.size w W → Q.length ≤ maxLen → Rd W 1 A2 Q.length (sv Q) → Calls Tryz.prog 51 #[.slice A2 Q.length c2, .slice Ap P.length cp] W fun e w' => e = .returned (.bool (decide (Q = P))) ∧ Below W.heap.size W w') := fun A2 c2 Q W hb hq hQ => refEqual_any A2 c2 Q Ap cp P W hQ (hP.below hb) hq hcp
 have HR := Lib.hid hR
 have HX : Hid (refFind L P = refFindFrom L P 0 (L.length - 0)) := rfl
 unfold maxLen at hc hcp
 clear hR hP
 go_enter Tryz.func23, Tryz.ntmps23
 go_wp2
 go_loopw [5] (fun vk wr => ∃ k : Nat, vk = .int .i64 k ∧ k ≤ L.length ∧ Hid (refFind L P = refFindFrom L P k (L.length - k)) ∧ Below w.heap.size w wr) (fun vk _ => L.length - (intOf vk).toNat)
 case atStart => exact ⟨0, rfl, by omega, HX, Below.refl _ _⟩
 case round =>
  clear HX
  obtain ⟨k, rfl, hk, HQ, hb⟩ := hrel
  by_cases hlt : k < L.length
  · obtain ⟨B, Of, rfl, hab, hadd, x0, -, -⟩ := (HR.out.below hb).line hlt
    have hst : Hid (refFind L P = if refHit L P k then (k : Int) else refFindFrom L P (k + 1) (L.length - (k + 1))) := by
     show _ = _
     rw [HQ.out, show L.length - k = (L.length - (k + 1)) + 1 by omega]; rfl
    have HH : Hid (refHit L P k = (decide (L[k].depth = (P.length : Int) - 1) && decide (pathB L k = P))) := by show _ = _; rw [← depthAt_lt hlt]; rfl
    have HPk := Lib.hid (fun W hb => HPa.out k W hb hlt)
    have hpl := pathB_len L k
    generalize L[k].depth = x at *
    by_cases hx : x = (P.length : Int) - 1
    · have hxb : (x == (P.length : Int) - 1) = true := by rw [beq_iff_eq]; exact hx
      have HH2 : Hid (refHit L P k = decide (pathB L k = P)) := by show _ = _; rw [HH.out, decide_eq_true hx]; rfl
      have hst2 : Hid (refFind L P = if decide (pathB L k = P) then (k : Int) else refFindFrom L P (k + 1) (L.length - (k + 1))) := by show _ = _; rw [hst.out, HH2.out]
      have HB := Lib.hid hb
      clear hx HH HQ HH2 hst HPa hb
      generalize pathB L k = pk at *
      go_wp2_with fail
      refine (HPk.out _ HB.out).mono ?_
      rintro e w2 ⟨A2, c2, rfl, hc1, hc2, hRd, -, hb2⟩
      have hb3 := below_step HB.out hb2
      have hEq := Lib.hid (HEq.out A2 c2 pk w2 hb3 (by omega) hRd)
      have HB3 := Lib.hid hb3
      clear HPk HB hb2 hRd hb3 x0
      go_wp2_with fail
      refine hEq.out.mono ?_
      rintro e w3 ⟨rfl, hb4⟩
      have hb5 := below_step HB3.out hb4
      have HB5 := Lib.hid hb5
      clear hEq HB3 hb4 hb5
      cases hd : decide (pk = P) with
      | true =>
        have HF : Hid (refFind L P = (k : Int)) := by show _ = _; rw [hst2.out, hd]; rfl
        clear hst2 hd
        go_wp2
        go_ret
        exact ⟨ret_int HF.out.symm, HB5.out⟩
      | false =>
        have HF : Hid (refFind L P = refFindFrom L P (k + 1) (L.length - (k + 1))) := by show _ = _; rw [hst2.out, hd]; rfl
        clear hst2 hd
        go_wp2_with fail
        go_roundw
        case rel => exact ⟨k + 1, by go_num, by omega, HF, HB5.out⟩
        case measure => simp [intOf]; omega
    · have hxb : (x == (P.length : Int) - 1) = false := by rw [beq_eq_false_iff_ne]; exact hx
      have HF : Hid (refFind L P = refFindFrom L P (k + 1) (L.length - (k + 1))) := by show _ = _; rw [hst.out, HH.out, decide_eq_false hx]; rfl
      have HB := Lib.hid hb
      clear hx HH HQ hst HPa hb HPk HEq
      go_wp2_with fail
      go_roundw
      case rel => exact ⟨k + 1, by go_num, by omega, HF, HB.out⟩
      case measure => simp [intOf]; omega
  · obtain rfl : k = L.length := by omega
    have HF : Hid (refFind L P = -1) := by show _ = _; rw [HQ.out, Nat.sub_self]; rfl
    clear HQ
    go_wp2
    go_ret
    exact ⟨ret_int HF.out.symm, hb⟩
end Go.Proofs.YtjdknhalcpkeaaaGreatDoor
