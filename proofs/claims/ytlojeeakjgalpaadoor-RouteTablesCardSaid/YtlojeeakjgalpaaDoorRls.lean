/- A walk: route.Rules: the places of all rules, by rising numbers, and where two are of one number by their places. -/
import Derived.Test.YtlojeeakjgalpaaDoorCmp
import Derived.Test.YtlojeeakjgalpaaDoorParW
namespace Rte
open Go Go.Sort
def keyAt (L : List Ent) (h : ByteArray) (i : Nat) : Int := match L[i]? with | some e => rule h e | none => 0
theorem keyAt_lt {L : List Ent} {h : ByteArray} {i : Nat} (hi : i < L.length) : keyAt L h i = rule h L[i] := by unfold keyAt; rw [List.getElem?_eq_getElem hi]
def spotsTo (L : List Ent) (h : ByteArray) (k : Nat) : List Nat := (List.range k).filter fun i => decide (0 < keyAt L h i)
def spots (L : List Ent) (h : ByteArray) : List Nat := spotsTo L h L.length
theorem spotsTo_succ (L : List Ent) (h : ByteArray) (k : Nat) : spotsTo L h (k + 1) = if 0 < keyAt L h k then spotsTo L h k ++ [k] else spotsTo L h k := by
  unfold spotsTo
  rw [List.range_succ, List.filter_append]
  by_cases hk : 0 < keyAt L h k
  · rw [if_pos hk]; congr 1; simp [hk]
  · rw [if_neg hk]; simp [hk]
theorem spotsTo_lt (L : List Ent) (h : ByteArray) (k : Nat) : ∀ i ∈ spotsTo L h k, i < k := by
  intro i hi; unfold spotsTo at hi; simpa using (List.mem_filter.1 hi).1
theorem spotsTo_len (L : List Ent) (h : ByteArray) (k : Nat) : (spotsTo L h k).length ≤ k := by
  unfold spotsTo; exact Nat.le_trans (List.length_filter_le _ _) (by simp)
theorem spotsTo_up (L : List Ent) (h : ByteArray) (k : Nat) : (spotsTo L h k).Pairwise (· < ·) := by
  unfold spotsTo; exact List.Pairwise.filter _ List.pairwise_lt_range
theorem mem_spots {L : List Ent} {h : ByteArray} {i : Nat} : i ∈ spots L h ↔ i < L.length ∧ 0 < keyAt L h i := by
  unfold spots spotsTo; simp [List.mem_filter]
/-- By numbers, and where these are the same by places. -/
def slt (key : Nat → Int) (x y : Nat) : Bool := decide (key x < key y ∨ key x = key y ∧ x < y)
theorem slt_tot (key : Nat → Int) : StS.Tot (slt key) where
  irrefl x := by unfold slt; simp
  trans x y z h1 h2 := by unfold slt at *; simp only [decide_eq_true_eq] at *; omega
  tot x y h1 h2 := by unfold slt at *; simp only [decide_eq_false_iff_not] at *; omega
/-- What Rules answers: the rules' places, in that order. -/
def RulesOf (L : List Ent) (h : ByteArray) (R : List Nat) : Prop := R.Perm (spots L h) ∧ R.Pairwise fun x y => slt (keyAt L h) y x = false
end Rte
namespace Go.Proofs.YtlojeeakjgalpaaDoor
open Go Go.RowKit Go.Sort Rte

theorem info_int : (Tryd.prog.info? 3).map (fun i => (i.zero, i.size, i.bytes)) = some (some (.int .i64 0), 1, 8) := by kernel_rfl
def nats (l : List Nat) : List Value := l.map pl
theorem nats_get (l : List Nat) (j : Nat) (hj : j < l.length) : (nats l)[j]? = some (pl (l.toArray[j]!)) := by
  unfold nats
  rw [List.getElem?_map, List.getElem?_eq_getElem hj]
  simp [hj]
theorem Sw.of_own {w : World} {base g n c : Nat} {T : TypeId} {l : List Nat} (h : w.ownsRow base T 1 (.slice (some ⟨g, 0, none⟩) n c) n (nats l)) (hn : l.length = n) : Sw w g 0 l.toArray w := by
  have hlt := (h.lt g rfl).2
  refine ⟨Kp.refl _ _, hlt, fun j hj => ?_⟩
  have hj' : j < l.length := by simpa using hj
  rw [Nat.zero_add]
  exact ⟨by rw [h.cellAt j (by omega)]; exact nats_get l j hj', h.frozenAt j⟩
/-- From the sort's world to the caller's. -/
theorem below_kp {w wr W : World} {g : Nat} (hb : Below w.heap.size w wr) (hk : Kp wr g W) (hg : w.heap.size ≤ g) : Below w.heap.size w W :=
  ⟨hk.os.trans hb.os, hk.tape.trans hb.tape, hk.output.trans hb.output, Nat.le_trans hb.size hk.size, fun k hlt => (hk.block k (Nat.lt_of_lt_of_le hlt hb.size) (by omega)).trans (hb.block k hlt)⟩
theorem Sw.rd {w0 W : World} {blk : Nat} {d : Array Nat} (h : Sw w0 blk 0 d W) : Rd W 1 (some ⟨blk, 0, none⟩) d.size (nats d.toList) := by
  refine ⟨by unfold nats; simp, fun _ => ⟨_, rfl, Nat.lt_of_lt_of_le h.lt h.kp.size, fun j u hu => ?_⟩⟩
  have hj : j < d.size := by have := (List.getElem?_eq_some_iff.1 hu).1; unfold nats at this; simpa using this
  have hc := h.c j hj
  rw [add_plain, hc, ← hu, nats_get d.toList j (by simpa using hj)]

def RulesEnd (w : World) (L : List Ent) (h : ByteArray) (e : Ending) (w' : World) : Prop :=
  ∃ A c R, e = .returned (.slice A R.length c) ∧ R.length ≤ c ∧ c ≤ maxLen ∧ Rd w' 1 A R.length (nats R) ∧ RulesOf L h R ∧ Below w.heap.size w w'

theorem own_push_nat {w : World} {base : Nat} {T : TypeId} {v : Value} {l : List Nat} {k : Nat} (h : w.ownsRow base T 1 v (l.length + 1) (nats l ++ [.int .i64 (k : Int)])) : w.ownsRow base T 1 v (l ++ [k]).length (nats (l ++ [k])) := by
  unfold nats at *; simpa using h

theorem sorted_pairs {s : Nat → Nat → Bool} {N : Nat} {d : Array Nat} (hs : d.size = N) (h : SortedIn s 0 N d) : d.toList.Pairwise fun x y => s y x = false := by
  rw [List.pairwise_iff_getElem]
  intro i j hi hj hij
  have hi' : i < d.size := by simpa using hi
  have hj' : j < d.size := by simpa using hj
  have := h i j (Nat.zero_le _) hij (by omega)
  rw [getElem!_pos d j hj', getElem!_pos d i hi'] at this
  simpa using this

set_option maxHeartbeats 2000000 in
set_option maxRecDepth 100000 in
theorem rules_any (A : Option Addr) (cap : Nat) (L : List Ent) (h : ByteArray) (w : World) (hE : Env w) (hR : Rd w 4 A L.length (ents L)) (_hcap : L.length ≤ cap) (_hc : cap ≤ maxLen) (hL : L.length ≤ 100000000) (hs : ∀ e ∈ L, e.key.size ≤ 100000000 ∧ e.val.size ≤ 100000000) :
    Calls Tryd.prog 18 #[.slice A L.length cap, .string h] w (RulesEnd w L h) := by
  obtain ⟨i0, hi, hz0, hz1, hz2⟩ := info_parts info_int
  unfold maxLen at _hc
  have HS := Lib.hid hs
  clear hs
  go_enter Tryd.func18, Tryd.ntmps18
  go_wp2
  have e1 : (w.alloc (.cells #[.slice A L.length cap] 26)).heap.size = w.heap.size + 1 := by simp
  obtain ⟨wB, hwB⟩ : ∃ wB, (w.alloc (.cells #[.slice A L.length cap] 26)).alloc (.cells #[.string h] 9) = wB := ⟨_, rfl⟩
  have hsz : wB.heap.size = w.heap.size + 2 := by rw [← hwB]; simp
  have hbB : Below w.heap.size w wB := by rw [← hwB]; exact (((Below.refl _ _).alloc (Nat.le_refl _) _).alloc (by simp) _)
  obtain ⟨pb, hpb⟩ : ∃ pb, w.heap.size = pb := ⟨_, rfl⟩
  have hp : wB.cell? ⟨pb, 0, none⟩ = some (.slice A L.length cap) := by
    rw [← hwB, ← hpb, World.cell?_alloc_lt _ _ _ (by simp), World.cell?_alloc_at _ _ _ _ rfl]; rfl
  have hq : wB.cell? ⟨pb + 1, 0, none⟩ = some (.string h) := by
    rw [← hwB, World.cell?_alloc_at _ _ _ _ (by rw [e1, hpb])]; rfl
  have hEB : Env wB := hE.below hbB
  have hRB : Rd wB 4 A L.length (ents L) := hR.below hbB
  rw [hpb, hwB]
  have HBB := Lib.hid hbB
  have hsz' : wB.heap.size = pb + 2 := by rw [← hpb]; exact hsz
  obtain ⟨q, hqb⟩ : ∃ q, pb + 1 = q := ⟨_, rfl⟩
  rw [hqb] at hq ⊢
  have HSZ : Hid (wB.heap.size = pb + 2) := hsz'
  have HPB : Hid (w.heap.size = pb) := hpb
  have HQB : Hid (pb + 1 = q) := hqb
  have HE := Lib.hid hEB
  have HR := Lib.hid hRB
  have HP := Lib.hid hp
  have HQ := Lib.hid hq
  clear hwB e1 hsz hbB hE hR hEB hRB hsz' hpb hqb hp hq
  go_loopw [5, 10] (fun v vi wr => ∃ k : Nat, k ≤ L.length ∧ vi = .int .i64 k ∧ wr.ownsRow wB.heap.size 3 1 v (spotsTo L h k).length (nats (spotsTo L h k)) ∧ Below wB.heap.size wB wr) (fun _ vi _ => L.length - (intOf vi).toNat)
  case atStart => exact ⟨0, Nat.zero_le _, rfl, World.ownsRow_nil _ _ _ _, Below.refl _ _⟩
  case round =>
    obtain ⟨k, hk, rfl, hown, hb⟩ := hrel
    have hlb : q < wB.heap.size := by rw [HSZ.out, ← HQB.out]; omega
    have hlp : pb < wB.heap.size := by rw [HSZ.out]; omega
    by_cases hlt : k < L.length
    · obtain ⟨B, O, rfl, hab, hadd, x0, x1, x2, x3⟩ := (HR.out.below hb).ent hlt
      have HX := Lib.hid (show ∀ W, Env W → _ from fun W hW => rule_any L[k] h W hW (HS.out _ (List.getElem_mem hlt)).1 (HS.out _ (List.getElem_mem hlt)).2)
      have hkey := keyAt_lt (h := h) hlt
      have hsucc := spotsTo_succ L h k
      rw [hkey] at hsucc
      have HSU := Lib.hid hsucc
      clear hkey hsucc
      have HC := Lib.hid (show rule h L[k] = rule h L[k] from rfl)
      have hqc : (wr.alloc (.cells #[.string L[k].host, .int .i64 L[k].kind, .string L[k].key, .string L[k].val] 29)).cell? ⟨q, 0, none⟩ = some (.string h) := by
        rw [World.cell?_alloc_lt _ _ _ (Nat.lt_of_lt_of_le hlb hb.size), hb.cell hlb]; exact HQ.out
      have hb1 := hb.alloc hb.size (.cells #[.string L[k].host, .int .i64 L[k].kind, .string L[k].key, .string L[k].val] 29)
      have hE1 := HE.out.below hb1
      have hown1 := hown.alloc (.cells #[.string L[k].host, .int .i64 L[k].kind, .string L[k].key, .string L[k].val] 29)
      generalize L[k] = x at *
      go_wp2_with fail
      refine (HX.out _ hE1).mono ?_
      rintro e w3 ⟨rfl, hb3⟩
      have hown3 := own_below hown1 hb3
      have hb3' : Below wB.heap.size wB w3 := hb1.trans (hb3.mono hb1.size)
      clear hb3 hown1 hb1 hE1 hown hb x0 x1 x2 x3 hqc HX HC
      generalize rule h x = r at *
      by_cases hr : 0 < r
      · have HT : Hid (spotsTo L h (k + 1) = spotsTo L h k ++ [k]) := by show _ = _; rw [HSU.out, if_pos hr]
        have hlen : (spotsTo L h k).length ≤ 100000000 := Nat.le_trans (spotsTo_len L h k) (by omega)
        clear HSU
        generalize spotsTo L h k = sp at *
        go_wp2_with (at_builtin; refine app_new rfl _ _ 37 rfl wB w3 3 i0 _ 1 8 Tryd.underlying37 hi hz0 hz1 hz2 rfl (by decide) (by decide) hown3 hb3' rfl 1 1 [.int .i64 (k : Int)] rfl rfl (by simp; rfl) (by omega) ?_; intro v' w' hown' hb')
        go_roundw
        case rel => exact ⟨k + 1, by omega, by go_num, by rw [HT.out]; exact own_push_nat hown', hb'⟩
        case measure => simp [intOf]; omega
      · have HT : Hid (spotsTo L h (k + 1) = spotsTo L h k) := by show _ = _; rw [HSU.out, if_neg hr]
        clear HSU
        go_wp2_with fail
        go_roundw
        case rel => exact ⟨k + 1, by omega, by go_num, by rw [HT.out]; exact hown3, hb3'⟩
        case measure => simp [intOf]; omega
    · obtain rfl : k = L.length := by omega
      have HSP : Hid (spots L h = spotsTo L h L.length) := rfl
      have HUP := Lib.hid (spotsTo_up L h L.length)
      have HLT := Lib.hid (spotsTo_lt L h L.length)
      have hlen := spotsTo_len L h L.length
      have hBw : Below w.heap.size w wr := HBB.out.trans (hb.mono (by rw [HSZ.out, HPB.out]; omega))
      have HBW := Lib.hid hBw
      clear hBw
      generalize spotsTo L h L.length = sp at *
      rcases hown.2 with ⟨rfl, h0⟩ | ⟨g, c, cur, rfl, hg, hh, hnc, hcm, -, -⟩
      · have hsp : sp = [] := List.length_eq_zero_iff.1 h0
        subst hsp
        clear hown
        have HX := Lib.hid (sortStable_none 0 (.func (.func 38) #[] #[.pointer (some ⟨pb, 0, none⟩), .pointer (some ⟨q, 0, none⟩)]) wr)
        go_wp2_with fail
        refine HX.out.mono ?_
        rintro e w3 ⟨rfl, rfl⟩
        go_wp2
        go_ret
        exact ⟨none, 0, [], rfl, Nat.le_refl _, by unfold maxLen; omega, ⟨rfl, fun hn => absurd hn (by simp)⟩, ⟨by rw [HSP.out], List.Pairwise.nil⟩, HBW.out⟩
      · have hS := Sw.of_own hown rfl
        have hCm : CmpOk L.length (fun x y => cmpI (keyAt L h x) (keyAt L h y)) (.pointer (some ⟨pb, 0, none⟩)) (.pointer (some ⟨q, 0, none⟩)) wr g := by
          intro W hk x y hx hy
          have hbW : Below wB.heap.size wB W := below_kp hb hk hg
          have hcq := cmp_any A cap L h pb q x y W (HE.out.below hbW) (HR.out.below hbW) (by omega) hx hy ((hbW.cell (p := ⟨pb, 0, none⟩) hlp).trans HP.out) ((hbW.cell (p := ⟨q, 0, none⟩) hlb).trans HQ.out) HS.out
          have e1 := keyAt_lt (h := h) hx
          have e2 := keyAt_lt (h := h) hy
          rw [← e1, ← e2] at hcq
          exact hcq
        have hX := sortStable_any L.length _ _ _ wr g 0 c sp.length (slt (keyAt L h)) (slt_tot _) hCm (by omega) sp.toArray wr (by simp) hS (fun i hi => by
            have hi' : i < sp.length := by simpa using hi
            rw [getElem!_pos _ i hi]
            exact HLT.out _ (by simp)) (fun p q' h1 h2 h3 => by
            have hp' : p < sp.length := by omega
            have hq' : q' < sp.length := by omega
            have hup := List.pairwise_iff_getElem.1 HUP.out p q' hp' hq' h2
            rw [getElem!_pos sp.toArray q' (by simpa using hq'), getElem!_pos sp.toArray p (by simpa using hp')]
            simp only [List.getElem_toArray]
            show decide (cmpI (keyAt L h sp[q']) (keyAt L h sp[p]) < 0) = slt (keyAt L h) sp[q'] sp[p]
            unfold slt cmpI
            rw [decide_eq_decide]
            generalize sp[p] = a at *
            generalize sp[q'] = b at *
            constructor
            · intro hlt'
              left
              split at hlt'
              · assumption
              · split at hlt' <;> omega
            · rintro (hlt' | ⟨_, hlt'⟩)
              · rw [if_pos hlt']; omega
              · omega)
        have HX := Lib.hid hX
        have HG := Lib.hid hg
        have HB := Lib.hid hb
        clear hX hCm hS hown hg hb hh HE HR HP HQ
        go_wp2_with fail
        refine HX.out.mono ?_
        rintro e w3 ⟨rfl, d2, hP2, hS2, hW2⟩
        have hsz2 : d2.size = sp.length := by rw [hP2.1]; simp
        have hRd := hW2.rd
        have HB3 : Hid (Below wB.heap.size wB w3) := below_kp HB.out hW2.kp HG.out
        have hB3 : Hid (Below w.heap.size w w3) := HBB.out.trans (HB3.out.mono (by rw [HSZ.out, HPB.out]; omega))
        have hRO : RulesOf L h d2.toList := by
          refine ⟨?_, sorted_pairs hsz2 hS2⟩
          have := hP2.2.2
          rw [show d2.extract 0 sp.length = d2 by rw [← hsz2]; exact Array.extract_size, show sp.toArray.extract 0 sp.length = sp.toArray by simp] at this
          rw [HSP.out]; simpa using this
        have hl2 : d2.toList.length = sp.length := by simpa using hsz2
        rw [hsz2] at hRd
        have K : Hid (RulesEnd w L h (.returned (.slice (some ⟨g, 0, none⟩) sp.length c)) w3) := ⟨some ⟨g, 0, none⟩, c, d2.toList, by rw [hl2], by rw [hl2]; exact hnc, hcm, by rw [hl2]; exact hRd, hRO, hB3.out⟩
        clear HX hP2 hS2 hW2 hsz2 hRd hRO hl2 HB3 hB3
        go_wp2
        go_ret
        exact K.out
end Go.Proofs.YtlojeeakjgalpaaDoor
