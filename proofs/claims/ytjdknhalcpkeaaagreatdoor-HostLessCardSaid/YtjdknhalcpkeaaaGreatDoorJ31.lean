/- Walks: host.under, host.one, the net's address and in. Words for memory: rows of the call's own of unlike types lie apart; an append turns no row of another type. Walks: the net's floods. -/
import Derived.Test.YtjdknhalcpkeaaaGreatDoorJ30
import Derived.Test.YtjdknhalcpkeaaaGreatDoorJ05
import Derived.Test.YtjdknhalcpkeaaaGreatDoorJ06
namespace Hst
open Go Go.Lib Rte Sch Tre
def underW (L : List Line) (P : List ByteArray) : List ByteArray := match findB L P with | none => [] | some k => (kidsB L k).map (wordAt L)
theorem under_kw {L : List Line} (hr : rightB L = true) {P : List ByteArray} (hP : P ≠ []) : underW L P = kw (paths L) P := by
 unfold underW
 cases hf : findB L P with
 | some k =>
   obtain ⟨h1, h2⟩ := findB_some hr hf
   rw [← h2]
   exact kids_words hr h1
 | none =>
   cases hk : kw (paths L) P with
   | nil => rfl
   | cons x l =>
     have h1 : P ++ [x] ∈ paths L := mem_kw.1 (by rw [hk]; simp)
     have h2 := (find_mem hr).2 ((trs_paths hr).front hP h1)
     rw [hf] at h2; cases h2
theorem kw_few {L : List Line} (hr : rightB L = true) (P : List ByteArray) : (kw (paths L) P).length ≤ 200 := by
 unfold kw
 rw [List.length_map]
 have h1 := List.length_filter_le (isKid P) (paths L)
 have h2 := (right_parts hr).1
 rw [paths_length] at h1
 omega
end Hst
namespace Go.Proofs.YtjdknhalcpkeaaaGreatDoor
open Go Go.RowKit Go.Sort Rte Sch Tre Hst
def StrsOwn (w : World) (P : List ByteArray) (e : Ending) (w' : World) : Prop :=
 (∃ v, e = .returned v ∧ w'.ownsRow w.heap.size 9 1 v P.length (sv P)) ∧ Below w.heap.size w w'
theorem info_str : (Tryz.prog.info? 9).map (fun i => (i.zero, i.size, i.bytes)) = some (some (.string ⟨#[]⟩), 1, 16) := by kernel_rfl
set_option maxHeartbeats 4000000 in
set_option maxRecDepth 100000 in
theorem under_own (A : Option Addr) (cap : Nat) (L : List Line) (Ap : Option Addr) (cp : Nat) (P : List ByteArray) (w : World) (hR : Rd w 3 A L.length (lines L)) (hcap : L.length ≤ cap) (hc : cap ≤ maxLen) (hr : rightB L = true) (hP0 : P ≠ []) (hP : Rd w 1 Ap P.length (sv P)) (hcp : P.length ≤ cp) (hc2 : cp ≤ maxLen) :
 Calls Tryz.prog 27 #[.slice A L.length cap, .slice Ap P.length cp] w (StrsOwn w (kw (paths L) P)) := by
 rw [← under_kw hr hP0]
 obtain ⟨i0, hi, hz0, hz1, hz2⟩ := info_parts info_str
 have HF := Lib.hid (find_lines A cap L Ap cp P w hR hcap hc hr hP hcp hc2)
 have h200 := right_len hr
 have HK := Lib.hid (fun k (hk : k < L.length) W (hb : Below w.heap.size w W) => kids_line A cap L k W (hR.below hb) hcap hc hr hk)
 have HFl := Lib.hid (fun k (h : findB L P = some k) => findB_lt h)
 have HR := Lib.hid hR
 have hU : Hid (underW L P = match findB L P with | none => [] | some k => (kidsB L k).map (wordAt L)) := rfl
 clear hR hP hr hP0
 go_enter Tryz.func27, Tryz.ntmps27
 cases hf : findB L P with
 | none =>
   rw [hf] at HF hU
   have HU : Hid (underW L P = []) := hU.out
   clear hU HK HFl HR hf
   go_wp2_with (go_at_call 46; refine HF.out.mono ?_; rintro e w1 ⟨rfl, hb1⟩)
   refine bodyPost_ret (v := .slice none 0 0) (by simp [results, Tryz.results27, go_sem]) rfl ?_
   rw [HU.out]
   exact ⟨⟨_, rfl, World.ownsRow_nil _ _ _ _⟩, hb1⟩
 | some k =>
   have hk := HFl.out k hf
   rw [hf] at HF hU
   have HKk := HK.out k hk
   have hmem : ∀ j (h : j < (kidsB L k).length), (kidsB L k)[j] < L.length := fun j h => by
    have h1 := (mem_kidsTo.1 (List.getElem_mem h)).1
    have := endB_le L k hk
    omega
   have hlen : (kidsB L k).length ≤ 200 := by
    have h1 := kidsTo_len L (depthAt L k + 1) (k + 1) (endB L k)
    have := endB_le L k hk
    unfold kidsB; omega
   have HU : Hid (underW L P = (kidsB L k).map (wordAt L)) := hU.out
   generalize kidsB L k = K at *
   have HM := Lib.hid hmem
   have HKK := Lib.hid HKk
   clear hU HK HFl hf hmem HKk
   go_wp2_with (first | (go_at_call 46; refine HF.out.mono ?_; rintro e w1 ⟨rfl, hb1⟩) | (go_at_call 61; refine (HKK.out _ hb1).mono ?_; unfold KidsEnd; rintro e w2 ⟨A2, c2, rfl, hc21, hc22, hrd2, hb2⟩; have HI := Lib.hid hrd2; have HB2 := Lib.hid (below_step hb1 hb2); have HR2 := Lib.hid (HR.out.below HB2.out); clear hrd2 hb2 hb1))
   go_loopw [7, 22] (fun v vi wr => ∃ j : Nat, j ≤ K.length ∧ vi = .int .i64 j ∧ Hid (wr.ownsRow w2.heap.size 9 1 v ((K.take j).map (wordAt L)).length (sv ((K.take j).map (wordAt L)))) ∧ Hid (Below w2.heap.size w2 wr)) (fun _ vi _ => K.length - (intOf vi).toNat)
   case atStart => exact ⟨0, Nat.zero_le _, rfl, World.ownsRow_nil _ _ _ _, Below.refl _ _⟩
   case round =>
    obtain ⟨j, hj, rfl, HO, HB⟩ := hrel
    by_cases hlt : j < K.length
    · obtain ⟨B, O, rfl, hab, hadd, hx⟩ := (HI.out.below HB.out).intAt hlt
      have hql := HM.out j hlt
      have hst : (K.take (j + 1)).map (wordAt L) = (K.take j).map (wordAt L) ++ [L[K[j]].word] := by
       rw [List.take_succ_eq_append_getElem hlt, List.map_append, List.map_singleton, wordAt_lt hql]
      generalize hq : K[j] = q at *
      obtain ⟨B2, O2, rfl, hab2, hadd2, y0, y1, y2⟩ := (HR2.out.below HB.out).line hql
      have HST := Lib.hid hst
      have hjl : ((K.take j).map (wordAt L)).length + 1 ≤ 1000000000 := by rw [List.length_map, List.length_take]; omega
      generalize L[q].word = s at *
      clear hst hq
      go_wp2_with (at_builtin; refine app_new rfl _ _ 42 rfl w2 wr 9 i0 _ 1 16 Tryz.underlying42 hi hz0 hz1 hz2 rfl (by decide) (by decide) HO.out HB.out rfl 1 1 [.string s] rfl rfl (by simp; rfl) hjl ?_; intro v' w' hown' hb')
      have HO2 := Lib.hid (own_push_str hown')
      have HB3 := Lib.hid hb'
      rw [← HST.out] at HO2
      clear hown' hb' HST
      go_roundw
      case rel => exact ⟨j + 1, by omega, by go_num, HO2, HB3⟩
      case measure => simp [intOf]; omega
    · have hjk : j = K.length := by omega
      have HO2 := HO.out
      rw [hjk, List.take_length, ← HU.out] at HO2
      have HOF := Lib.hid HO2
      have HBF := Lib.hid (below_step HB2.out HB.out)
      have hsz := HB2.out.size
      clear HO HO2 HB
      go_wp2
      go_ret
      exact ⟨⟨_, rfl, own_base HOF.out hsz⟩, HBF.out⟩
theorem under_any (A : Option Addr) (cap : Nat) (L : List Line) (Ap : Option Addr) (cp : Nat) (P : List ByteArray) (w : World) (hR : Rd w 3 A L.length (lines L)) (hcap : L.length ≤ cap) (hc : cap ≤ maxLen) (hr : rightB L = true) (hP0 : P ≠ []) (hP : Rd w 1 Ap P.length (sv P)) (hcp : P.length ≤ cp) (hc2 : cp ≤ maxLen) :
 Calls Tryz.prog 27 #[.slice A L.length cap, .slice Ap P.length cp] w (StrsEnd w (kw (paths L) P)) :=
 (under_own A cap L Ap cp P w hR hcap hc hr hP0 hP hcp hc2).mono fun e w' ⟨⟨v, h1, h2⟩, h3⟩ => by
  obtain ⟨A3, c3, hv3, g1, g2, g3, g4⟩ := own_rd_nil h2
  exact ⟨A3, c3, by rw [h1, hv3], g1, g2, g3, g4, h3⟩
set_option maxHeartbeats 2000000 in
set_option maxRecDepth 100000 in
theorem one_any (A : Option Addr) (cap : Nat) (L : List Line) (other : ByteArray) (Ap : Option Addr) (cp : Nat) (P : List ByteArray) (w : World) (hR : Rd w 3 A L.length (lines L)) (hcap : L.length ≤ cap) (hc : cap ≤ maxLen) (hr : rightB L = true) (hP0 : P ≠ []) (hP : Rd w 1 Ap P.length (sv P)) (hcp : P.length ≤ cp) (hc2 : cp ≤ maxLen) :
 Calls Tryz.prog 65 #[.slice A L.length cap, .string other, .slice Ap P.length cp] w fun e w' => e = .returned (.string (oneU (paths L) other P)) ∧ Below w.heap.size w w' := by
 have HU := Lib.hid (under_any A cap L Ap cp P w hR hcap hc hr hP0 hP hcp hc2)
 have hX : Hid (oneU (paths L) other P = (kw (paths L) P).headD other) := rfl
 have h200 := kw_few hr P
 clear hR hP hr hP0
 generalize kw (paths L) P = K at *
 go_enter Tryz.func65, Tryz.ntmps65
 cases K with
 | nil =>
   go_wp2_with (go_at_call 27; refine HU.out.mono ?_; unfold StrsEnd; rintro e w1 ⟨A1, c1, rfl, h1, h2, h3, h4, hb1⟩)
   go_ret
   exact ⟨by rw [hX.out]; rfl, hb1⟩
 | cons x l =>
   have hl : ((x :: l).length : Int) ≠ 0 := by simp; omega
   have hl0 : ((x :: l).length : Int) = ((l.length + 1 : Nat) : Int) := by simp
   generalize hn : (x :: l).length = n at *
   have hn0 : 0 < n := by rw [← hn]; simp
   go_wp2_with (go_at_call 27; refine HU.out.mono ?_; unfold StrsEnd; rw [hn]; rintro e w1 ⟨A1, c1, rfl, h1, h2, h3, h4, hb1⟩; rw [← hn] at h3; obtain ⟨B, O, rfl, hab, hadd, hx⟩ := Rd.strAt h3 (i := 0) (by simp); have hx' : w1.cell? ⟨B, O, none⟩ = some (.string x) := hx; clear hx hadd h3)
   go_ret
   exact ⟨by rw [hX.out]; rfl, hb1⟩
theorem rd_words (W : World) (T : TypeId) (P : List ByteArray) {cs : Array Value} (h : cs = (sv P).toArray) : Rd (W.alloc (.cells cs T)) 1 (some ⟨W.heap.size, 0, none⟩) P.length (sv P) :=
 ⟨by rw [sv_len]; omega, fun _ => ⟨_, rfl, by simp, fun j u hu => by
  rw [add_plain, Nat.zero_add, World.cell?_alloc_at _ _ _ _ rfl, h, List.getElem?_toArray]; exact hu⟩⟩
def netV (A : Option Addr) (n cap : Nat) : Value := .agg #[.slice A n cap]
theorem contains_any (A : Option Addr) (c : Nat) (K : List ByteArray) (x : ByteArray) (w : World) (hR : Rd w 1 A K.length (sv K)) (hk : K.length ≤ 1000000) :
 Calls Tryz.prog 103 #[.slice A K.length c, .string x] w fun e w' => e = .returned (.bool (memB x K)) ∧ w' = w := by
 cases K with
 | nil => exact Tryz.slices_Contains_string_empty A c x w
 | cons y l =>
   obtain ⟨B, O, rfl, hab, hadd, hx⟩ := hR.strAt (i := 0) (by simp)
   have := Tryz.slices_Contains_string B O (y :: l).length c (y :: l) x w (Nat.le_refl _) (by omega) fun j hj => by
    obtain ⟨B2, O2, e, -, -, hx⟩ := hR.strAt hj
    injection e with e
    injection e with e1 e2
    subst e1; subst e2
    rw [hx, List.getD_eq_getElem?_getD, List.getElem?_eq_getElem hj]; rfl
   refine this.mono fun e w' ⟨h1, h2⟩ => ⟨?_, h2⟩
   rw [h1, List.take_length]
   congr 2
   rw [Bool.eq_iff_iff, Lib.containsS_iff, memB_iff]
section
variable (A : Option Addr) (cap : Nat) (L : List Line) (h : ByteArray) (w : World) (hR : Rd w 3 A L.length (lines L)) (hcap : L.length ≤ cap) (hc : cap ≤ maxLen) (hr : rightB L = true)
include hR hcap hc hr
set_option maxHeartbeats 1000000 in
theorem netAddr_any : Calls Tryz.prog 64 #[netV A L.length cap, .string h] w fun e w' => e = .returned (.string (addrU (paths L) h)) ∧ Below w.heap.size w w' := by
 unfold netV
 have HO := Lib.hid (fun W (hb : Below w.heap.size w W) b (hP : Rd W 1 (some ⟨b, 0, none⟩) 3 (sv [wHosts, h, wIp])) => one_any A cap L emB (some ⟨b, 0, none⟩) 3 [wHosts, h, wIp] W (hR.below hb) hcap hc hr (by simp) hP (Nat.le_refl _) (by unfold maxLen; omega))
 have HX : Hid (addrU (paths L) h = oneU (paths L) emB [wHosts, h, wIp]) := rfl
 obtain ⟨w1, hw1⟩ : ∃ w1, w.alloc (.cells #[.slice A L.length cap] 59) = w1 := ⟨_, rfl⟩
 have HB1 : Hid (Below w.heap.size w w1) := by show Below _ _ _; rw [← hw1]; exact (Below.refl _ _).alloc (Nat.le_refl _) _
 have x0 : w1.cell? ⟨w.heap.size, 0, none⟩ = some (.slice A L.length cap) := by rw [← hw1, World.cell?_alloc_at _ _ _ _ rfl]; rfl
 clear hR hr
 go_enter Tryz.func64, Tryz.ntmps64
 go_wp2_with (go_at_call 65; refine (HO.out _ (HB1.out.alloc HB1.out.size _) _ (rd_words _ _ [wHosts, h, wIp] rfl)).mono ?_; rintro e w' ⟨rfl, hb⟩)
 go_ret
 exact ⟨by rw [HX.out]; rfl, below_step (HB1.out.alloc HB1.out.size _) hb⟩
set_option maxHeartbeats 1000000 in
theorem netIn_any (v : ByteArray) : Calls Tryz.prog 63 #[netV A L.length cap, .string h, .string v] w fun e w' => e = .returned (.bool (inU (paths L) h v)) ∧ Below w.heap.size w w' := by
 unfold netV
 have HO := Lib.hid (fun W (hb : Below w.heap.size w W) b (hP : Rd W 1 (some ⟨b, 0, none⟩) 3 (sv [wHosts, h, wVnis])) => under_any A cap L (some ⟨b, 0, none⟩) 3 [wHosts, h, wVnis] W (hR.below hb) hcap hc hr (by simp) hP (Nat.le_refl _) (by unfold maxLen; omega))
 have HX : Hid (inU (paths L) h v = memB v (kw (paths L) [wHosts, h, wVnis])) := rfl
 have h200 := kw_few hr [wHosts, h, wVnis]
 obtain ⟨w1, hw1⟩ : ∃ w1, w.alloc (.cells #[.slice A L.length cap] 59) = w1 := ⟨_, rfl⟩
 have HB1 : Hid (Below w.heap.size w w1) := by show Below _ _ _; rw [← hw1]; exact (Below.refl _ _).alloc (Nat.le_refl _) _
 have x0 : w1.cell? ⟨w.heap.size, 0, none⟩ = some (.slice A L.length cap) := by rw [← hw1, World.cell?_alloc_at _ _ _ _ rfl]; rfl
 clear hR hr
 generalize kw (paths L) [wHosts, h, wVnis] = K at *
 go_enter Tryz.func63, Tryz.ntmps63
 go_wp2_with (first | (go_at_call 27; refine (HO.out _ (HB1.out.alloc HB1.out.size _) _ (rd_words _ _ [wHosts, h, wVnis] rfl)).mono ?_; unfold StrsEnd; rintro e w2 ⟨A2, c2, rfl, hc1, hc2, hrd, hz, hb⟩) | (go_at_call 103; refine (contains_any A2 c2 K v w2 hrd (by omega)).mono ?_; rintro e w3 ⟨rfl, rfl⟩))
 go_ret
 exact ⟨by rw [HX.out]; rfl, below_step (HB1.out.alloc HB1.out.size _) hb⟩
end
end Go.Proofs.YtjdknhalcpkeaaaGreatDoor
namespace Go.Proofs.YtjdknhalcpkeaaaGreatDoor
open Go Go.RowKit
def KeepT (e : TypeId) (a b : World) : Prop := ∀ (g : Nat) (c : Array Value) (T : TypeId), T ≠ e → a.heap[g]? = some (.cells c T (0, 0)) → b.heap[g]? = some (.cells c T (0, 0))
section
variable {e : TypeId} {a b c : World}
theorem KeepT.refl (e : TypeId) (a : World) : KeepT e a a := fun _ _ _ _ h => h
theorem KeepT.trans (h : KeepT e a b) (k : KeepT e b c) : KeepT e a c := fun g x T hT hg => k g x T hT (h g x T hT hg)
theorem KeepT.of (h : Below a.heap.size a b) : KeepT e a b := fun g _ _ _ hg => (h.block g (Array.getElem?_eq_some_iff.1 hg).1).trans hg
theorem KeepT.below (h : KeepT e a b) (k : Below b.heap.size b c) : KeepT e a c := h.trans (.of k)
theorem KeepT.alloc (h : KeepT e a b) (o : Obj) : KeepT e a (b.alloc o) := h.below ((Below.refl _ _).alloc (Nat.le_refl _) _)
theorem KeepT.own {e' : TypeId} {base k n : Nat} {v : Value} {xs : List Value} (h : KeepT e a b) (hne : e' ≠ e) (ho : a.ownsRow base e' k v n xs) : b.ownsRow base e' k v n xs :=
 ⟨ho.1, ho.2.imp id fun ⟨g, cap, cur, h1, h2, h3, h4⟩ => ⟨g, cap, cur, h1, h2, h g cur e' hne h3, h4⟩⟩
theorem KeepT.grown {base k n : Nat} {v : Value} {xs : List Value} (ho : a.ownsRow base e k v n xs) (hg : a.grownBy b v.ownBlock) : KeepT e a b := fun g x T hT hx => by
 refine (hg.block g (Array.getElem?_eq_some_iff.1 hx).1 fun h => ?_).trans hx
 rcases ho.2 with ⟨rfl, -⟩ | ⟨q, cap, cur, rfl, -, hh, -⟩
 · cases h
 · injection h with h
   change g = q at h
   rw [h, hh] at hx
   injection hx with hx
   injection hx with h1 h2
   exact hT h2.symm
end
theorem app_typed {P : Program} {ops : Array Oper} {rest : List Oper} {o : Oper} {a : Act} {Q : Exit → Act → World → Prop} (hgd : o.guard = none) (s x : Operand) (t : TypeId)
 (ho : o.op = .call { callee := .builtin .append, args := #[s, x], argTypes := #[t, t] })
 (w0 wr : World) (e : TypeId) (i : TypeInfo) (z : Value) (size bytes : Nat) (ht : P.underlying t = some (.slice e)) (hi : P.info? e = some i) (hz : i.zero = some z)
 (hsize : i.size = size) (hby : i.bytes = bytes) (hzs : z.cells.size = size) (hsz : 0 < size) (hb64 : bytes ≤ 64)
 {v : Value} {n : Nat} {xs : List Value} (hown : wr.ownsRow w0.heap.size e size v n xs) (hb : Below w0.heap.size w0 wr) (hs : a.eval s = v)
 (m c : Nat) (news : List Value) (hx : a.eval x = .slice (some ⟨wr.heap.size, 0, none⟩) m c) (hl : news.length = m * size) (h1 : ∀ u ∈ news, u.oneCell' = true)
 (hN : n + m ≤ 1000000000)
 (h : ∀ v' w', w'.ownsRow w0.heap.size e size v' (n + m) (xs ++ news) → Below w0.heap.size w0 w' → KeepT e wr w' → wpList P ops Q rest (a.put o.dst v') w') :
 wpList P ops Q (o :: rest) a (wr.alloc (.cells news.toArray e)) := by
 have hbytes : (n + m) * bytes ≤ 140737488355328 := Nat.le_trans (Nat.mul_le_mul hN hb64) (by decide)
 refine wpList_append_own _ hgd s x t ho w0.heap.size e i z size bytes ht hi hz hsize hby hzs hsz v n xs hs (hown.alloc _) ⟨wr.heap.size, 0, none⟩ m c news hx hl ?_ h1 (by unfold maxLen; omega) hbytes (Nat.le_trans hb.size (by simp)) ?_
 · intro j u hu
   rw [add_plain, Nat.zero_add, World.cell?_alloc_at _ _ _ _ rfl]
   simpa using hu
 · intro v' w' hown' hg _
   exact h v' w' hown' ((hb.alloc hb.size _).grown hg (Nat.le_trans hb.size (by simp)) fun q hq => (hown.lt q hq).1) (((KeepT.refl e wr).alloc _).trans (KeepT.grown (hown.alloc _) hg))
def Nc (W : World) (wb : Nat) (A : Option Addr) (n cap : Nat) : Prop := W.heap[wb]? = some (.cells #[.slice A n cap] 59 (0, 0))
theorem Nc.cell {W : World} {wb : Nat} {A : Option Addr} {n cap : Nat} (h : Nc W wb A n cap) : W.cell? ⟨wb, 0, none⟩ = some (.slice A n cap) := by
 rw [cell_of_row W wb 0 _ _ (0, 0) h]; rfl
theorem Nc.keep {W W' : World} {wb : Nat} {A : Option Addr} {n cap : Nat} {e : TypeId} (h : Nc W wb A n cap) (hk : KeepT e W W') (hne : 59 ≠ e) : Nc W' wb A n cap := hk _ _ _ hne h
theorem Nc.below {W W' : World} {wb : Nat} {A : Option Addr} {n cap : Nat} (h : Nc W wb A n cap) (hb : Below W.heap.size W W') : Nc W' wb A n cap := (hb.block wb (Array.getElem?_eq_some_iff.1 h).1).trans h
theorem Nc.alloc {W : World} {wb : Nat} {A : Option Addr} {n cap : Nat} (h : Nc W wb A n cap) (o : Obj) : Nc (W.alloc o) wb A n cap := h.below ((Below.refl _ _).alloc (Nat.le_refl _) _)
end Go.Proofs.YtjdknhalcpkeaaaGreatDoor
namespace Hst
open Go Go.Lib Rte Sch Tre
section
variable (S : List (List ByteArray)) (h : ByteArray)
def flIn (v : ByteArray) (G : List ByteArray) : List Ent := (G.filter fun g => !(decide (g = h)) && inU S g v).map fun g => ⟨h, 1, v, addrU S g⟩
def flTo (V : List ByteArray) : List Ent := V.flatMap fun v => flIn S h v (kw S [wHosts])
theorem floods_to : floodsU S h = flTo S h (kw S [wHosts, h, wVnis]) := rfl
theorem flIn_no {v : ByteArray} {G : List ByteArray} {i : Nat} (hi : i < G.length) (hn : G[i] = h ∨ inU S G[i] v = false) : flIn S h v (G.take (i + 1)) = flIn S h v (G.take i) := by
 unfold flIn
 rw [List.take_succ_eq_append_getElem hi, List.filter_append, List.map_append, List.filter_cons_of_neg, List.filter_nil, List.map_nil, List.append_nil]
 rcases hn with hn | hn
 · simp [hn]
 · simp [hn]
theorem flIn_yes {v : ByteArray} {G : List ByteArray} {i : Nat} (hi : i < G.length) (h1 : G[i] ≠ h) (h2 : inU S G[i] v = true) : flIn S h v (G.take (i + 1)) = flIn S h v (G.take i) ++ [⟨h, 1, v, addrU S G[i]⟩] := by
 unfold flIn
 rw [List.take_succ_eq_append_getElem hi, List.filter_append, List.map_append, List.filter_cons_of_pos (by simp [h1, h2]), List.filter_nil, List.map_singleton]
theorem flTo_succ {V : List ByteArray} {j : Nat} (hj : j < V.length) : flTo S h (V.take (j + 1)) = flTo S h (V.take j) ++ flIn S h V[j] (kw S [wHosts]) := by
 unfold flTo
 rw [List.take_succ_eq_append_getElem hj, List.flatMap_append, List.flatMap_cons, List.flatMap_nil, List.append_nil]
theorem flIn_len (v : ByteArray) (G : List ByteArray) : (flIn S h v G).length ≤ G.length := by
 unfold flIn
 rw [List.length_map]; exact List.length_filter_le _ _
theorem flTo_len : ∀ (V : List ByteArray), (flTo S h V).length ≤ V.length * (kw S [wHosts]).length
 | [] => by simp [flTo]
 | v :: V => by
   have h1 := flTo_len V
   have h2 := flIn_len S h v (kw S [wHosts])
   unfold flTo at h1 ⊢
   rw [List.flatMap_cons, List.length_append, List.length_cons, Nat.add_mul]
   omega
end
end Hst
namespace Go.Proofs.YtjdknhalcpkeaaaGreatDoor
open Go Go.RowKit Go.Sort Rte Sch Tre Hst
theorem info_ent : (Tryz.prog.info? 35).map (fun i => (i.zero, i.size, i.bytes)) = some (some (.agg #[.string ⟨#[]⟩, .int .i64 0, .string ⟨#[]⟩, .string ⟨#[]⟩]), 4, 56) := by kernel_rfl
def EntsEnd (w : World) (l : List Ent) (e : Ending) (w' : World) : Prop :=
 (∃ v, e = .returned v ∧ w'.ownsRow w.heap.size 35 4 v l.length (ents l)) ∧ Below w.heap.size w w'
theorem own_push_ent {w : World} {base : Nat} {T : TypeId} {v : Value} {l : List Ent} {t : Ent} (h : w.ownsRow base T 4 v (l.length + 1) (ents l ++ t.cells)) : w.ownsRow base T 4 v (l ++ [t]).length (ents (l ++ [t])) := by
 rw [ents_append, ents_one, List.length_append]; exact h
theorem ne_list {a b : ByteArray} (h : a ≠ b) : (a.toList == b.toList) = false ∧ ¬ a.toList = b.toList := by
 have : ¬ a.toList = b.toList := fun e => h (bytes_same e)
 exact ⟨by rw [beq_eq_false_iff_ne]; exact this, this⟩
theorem kw_short {L : List Line} (hr : rightB L = true) {P : List ByteArray} {x : ByteArray} (hx : x ∈ kw (paths L) P) : x.size ≤ 40 := by
 obtain ⟨i, hi, e⟩ := mem_paths.1 (mem_kw.1 hx)
 have hw := pa_last hr hi
 rw [e, List.getLastD_eq_getLast?, List.getLast?_append] at hw
 have hw : x = wordAt L i := hw
 have := right_sound hr L[i] (List.getElem_mem hi)
 unfold soundB at this
 simp only [Bool.and_eq_true, decide_eq_true_eq] at this
 rw [hw, wordAt_lt hi]
 exact this.1.1.2
structure NetK (A : Option Addr) (cap : Nat) (L : List Line) (S : List (List ByteArray)) (w : World) : Prop where
 under : ∀ P, P ≠ [] → P.length ≤ 1000 → ∀ W, Below w.heap.size w W → ∀ b, Rd W 1 (some ⟨b, 0, none⟩) P.length (sv P) → Calls Tryz.prog 27 #[.slice A L.length cap, .slice (some ⟨b, 0, none⟩) P.length P.length] W (StrsOwn W (kw S P))
 one : ∀ other P, P ≠ [] → P.length ≤ 1000 → ∀ W, Below w.heap.size w W → ∀ b, Rd W 1 (some ⟨b, 0, none⟩) P.length (sv P) → Calls Tryz.prog 65 #[.slice A L.length cap, .string other, .slice (some ⟨b, 0, none⟩) P.length P.length] W fun e w' => e = .returned (.string (oneU S other P)) ∧ Below W.heap.size W w'
 isin : ∀ g v W, Below w.heap.size w W → Calls Tryz.prog 63 #[.agg #[.slice A L.length cap], .string g, .string v] W fun e w' => e = .returned (.bool (inU S g v)) ∧ Below W.heap.size W w'
 addr : ∀ g W, Below w.heap.size w W → Calls Tryz.prog 64 #[.agg #[.slice A L.length cap], .string g] W fun e w' => e = .returned (.string (addrU S g)) ∧ Below W.heap.size W w'
 few : ∀ P, (kw S P).length ≤ 200
 short : ∀ P, ∀ x ∈ kw S P, x.size ≤ 40
theorem netK (A : Option Addr) (cap : Nat) (L : List Line) (w : World) (hR : Rd w 3 A L.length (lines L)) (hcap : L.length ≤ cap) (hc : cap ≤ maxLen) (hr : rightB L = true) : NetK A cap L (paths L) w where
 under P hP0 hl W hb b hP := under_own A cap L (some ⟨b, 0, none⟩) P.length P W (hR.below hb) hcap hc hr hP0 hP (Nat.le_refl _) (by unfold maxLen; omega)
 one other P hP0 hl W hb b hP := one_any A cap L other (some ⟨b, 0, none⟩) P.length P W (hR.below hb) hcap hc hr hP0 hP (Nat.le_refl _) (by unfold maxLen; omega)
 isin g v W hb := netIn_any A cap L g W (hR.below hb) hcap hc hr v
 addr g W hb := netAddr_any A cap L g W (hR.below hb) hcap hc hr
 few P := kw_few hr P
 short P x hx := kw_short hr hx
theorem NetK.later {A : Option Addr} {cap : Nat} {L : List Line} {S : List (List ByteArray)} {w w' : World} (h : NetK A cap L S w) (hb : Below w.heap.size w w') : NetK A cap L S w' where
 under P h0 hl W hb2 := h.under P h0 hl W (below_step hb hb2)
 one o P h0 hl W hb2 := h.one o P h0 hl W (below_step hb hb2)
 isin g v W hb2 := h.isin g v W (below_step hb hb2)
 addr g W hb2 := h.addr g W (below_step hb hb2)
 few := h.few
 short := h.short
theorem NetK.oneShort {A : Option Addr} {cap : Nat} {L : List Line} {S : List (List ByteArray)} {w : World} (h : NetK A cap L S w) (o : ByteArray) (P : List ByteArray) (ho : o.size ≤ 40) : (oneU S o P).size ≤ 40 := by
 unfold oneU
 cases hk : kw S P with
 | nil => exact ho
 | cons x l => exact h.short P x (by rw [hk]; simp)
theorem own_word {W : World} {base n c : Nat} {A : Option Addr} {K : List ByteArray} {T : TypeId} (h : W.ownsRow base T 1 (.slice A n c) n (sv K)) (hn : n = K.length) {j : Nat} (hj : j < K.length) :
 ∃ B, A = some ⟨B, 0, none⟩ ∧ (⟨B, 0, none⟩ : Addr).add j = ⟨B, j, none⟩ ∧ W.cell? ⟨B, j, none⟩ = some (.string K[j]) := by
 subst hn
 rcases h.2 with ⟨h1, h2⟩ | ⟨g, cap, cur, h1, -, hh, -, -, -, ht⟩
 · omega
 · injection h1 with h1 _ h3
   refine ⟨g, h1, by rw [add_plain, Nat.zero_add], ?_⟩
   have := h.cells (g := g) (by rw [h1]; rfl) j _ (sv_get hj)
   rwa [add_plain, Nat.zero_add] at this
set_option maxHeartbeats 4000000 in
set_option maxRecDepth 100000 in
theorem floods_any (A : Option Addr) (cap : Nat) (L : List Line) (S : List (List ByteArray)) (h : ByteArray) (w : World) (hN : NetK A cap L S w) :
 Calls Tryz.prog 29 #[netV A L.length cap, .string h] w (EntsEnd w (floodsU S h)) := by
 obtain ⟨i0, hi, hz0, hz1, hz2⟩ := info_parts info_ent
 unfold netV
 have HU := Lib.hid hN.under
 have HI := Lib.hid hN.isin
 have HA := Lib.hid hN.addr
 have HF := Lib.hid (floods_to S h)
 have hk1 := hN.few [wHosts, h, wVnis]
 have hk2 := hN.few [wHosts]
 have HNo := Lib.hid (fun (v : ByteArray) (G : List ByteArray) (i : Nat) (hi : i < G.length) (hn : G[i] = h ∨ inU S G[i] v = false) => flIn_no S h hi hn)
 have HYes := Lib.hid (fun (v : ByteArray) (G : List ByteArray) (i : Nat) (hi : i < G.length) (h1 : G[i] ≠ h) (h2 : inU S G[i] v = true) => flIn_yes S h hi h1 h2)
 have HSucc := Lib.hid (fun (V : List ByteArray) (j : Nat) (hj : j < V.length) => flTo_succ S h hj)
 have HL1 := Lib.hid (flIn_len S h)
 have HL2 := Lib.hid (flTo_len S h)
 generalize floodsU S h = R at *
 obtain ⟨w1, hw1⟩ : ∃ w1, w.alloc (.cells #[.slice A L.length cap] 59) = w1 := ⟨_, rfl⟩
 have HB1 : Hid (Below w.heap.size w w1) := by show Below _ _ _; rw [← hw1]; exact (Below.refl _ _).alloc (Nat.le_refl _) _
 obtain ⟨wb, hwb⟩ : ∃ wb, w.heap.size = wb := ⟨_, rfl⟩
 have X1 : Hid (Nc w1 wb A L.length cap) := by show Nc _ _ _ _ _; rw [← hw1, ← hwb]; exact heap_alloc_new w _
 have x0 := X1.out.cell
 clear hN
 generalize hK1 : kw S [wHosts, h, wVnis] = K1 at *
 have HK1 := Lib.hid hK1
 generalize hK2 : kw S [wHosts] = K2 at *
 have HK2 := Lib.hid hK2
 clear hK1 hK2
 go_enter Tryz.func29, Tryz.ntmps29
 go_wp2_with (go_at_call 27; refine (HU.out [wHosts, h, wVnis] (by simp) (by simp) _ (HB1.out.alloc HB1.out.size _) _ (rd_words _ _ [wHosts, h, wVnis] rfl)).mono ?_; rw [HK1.out]; unfold StrsOwn; rintro e w2 ⟨⟨v2, rfl, hv2⟩, hb⟩; obtain ⟨A2, c2, rfl, hc1, hc2, -, -⟩ := own_rd_nil hv2; have HB2 := Lib.hid (below_step (HB1.out.alloc HB1.out.size _) hb); have HV1 := Lib.hid hv2; have X2 := Lib.hid ((X1.out.alloc _).below hb); clear hb hv2 x0 hw1 hwb)
 go_loopw [5, 16] (fun v vi wr => ∃ j : Nat, j ≤ K1.length ∧ vi = .int .i64 j ∧ Hid (wr.ownsRow w.heap.size 35 4 v (flTo S h (K1.take j)).length (ents (flTo S h (K1.take j)))) ∧ Hid (Below w.heap.size w wr) ∧ Hid (KeepT 35 w2 wr)) (fun _ vi _ => K1.length - (intOf vi).toNat)
 case atStart => exact ⟨0, Nat.zero_le _, rfl, World.ownsRow_nil _ _ _ _, HB2.out, KeepT.refl _ _⟩
 case round =>
  obtain ⟨j, hj, rfl, HO, HB, HK⟩ := hrel
  by_cases hlt : j < K1.length
  · obtain ⟨B, rfl, hadd, hx⟩ := own_word (HK.out.own (by decide) HV1.out) rfl hlt
    have Xr := Lib.hid (X2.out.keep HK.out (by decide))
    have xr := Xr.out.cell
    have HSj := Lib.hid (HSucc.out K1 j hlt)
    have hl2 := HL2.out (K1.take j)
    rw [List.length_take] at hl2
    have hl3 : (flTo S h (K1.take j)).length ≤ 40000 := Nat.le_trans hl2 (Nat.le_trans (Nat.mul_le_mul (by omega : min j K1.length ≤ 200) hk2) (by decide))
    clear hl2
    generalize K1[j] = nv at *
    generalize flTo S h (K1.take j) = F at *
    go_wp2_with (go_at_call 27; refine (HU.out [wHosts] (by simp) (by simp) _ (HB.out.alloc HB.out.size _) _ (rd_words _ _ [wHosts] rfl)).mono ?_; rw [HK2.out]; unfold StrsOwn; rintro e w3 ⟨⟨v3, rfl, hv3⟩, hb3⟩; obtain ⟨A3, c3, rfl, hc31, hc32, -, -⟩ := own_rd_nil hv3; have HB3 := Lib.hid (below_step (HB.out.alloc HB.out.size _) hb3); have HV2 := Lib.hid hv3; have HK3 := Lib.hid ((HK.out.alloc _).below hb3); have HO3 := Lib.hid (own_below (HO.out.alloc (.cells #[.string wHosts] 9)) hb3); have X3 := Lib.hid ((Xr.out.alloc _).below hb3); clear hb3 hv3 xr hx HO Xr HK HB)
    go_loopw [5, 25] (fun v vi wr2 => ∃ i : Nat, i ≤ K2.length ∧ vi = .int .i64 i ∧ Hid (wr2.ownsRow w.heap.size 35 4 v (F ++ flIn S h nv (K2.take i)).length (ents (F ++ flIn S h nv (K2.take i)))) ∧ Hid (Below w.heap.size w wr2) ∧ Hid (KeepT 35 w3 wr2)) (fun _ vi _ => K2.length - (intOf vi).toNat)
    case atStart => exact ⟨0, Nat.zero_le _, rfl, by show World.ownsRow _ _ _ _ _ _ _; rw [show F ++ flIn S h nv (K2.take 0) = F from List.append_nil F]; exact HO3.out, HB3.out, KeepT.refl _ _⟩
    case round =>
     clear HO3
     obtain ⟨i, hi2, rfl, HOi, HBi, HKi⟩ := hrel
     by_cases hlt2 : i < K2.length
     · obtain ⟨B3, rfl, hadd3, hx3⟩ := own_word (HKi.out.own (by decide) HV2.out) rfl hlt2
       have Xq := Lib.hid (X3.out.keep HKi.out (by decide))
       have xq := Xq.out.cell
       have hno := HNo.out nv K2 i hlt2
       have hyes := HYes.out nv K2 i hlt2
       have hl4 : (F ++ flIn S h nv (K2.take i)).length + 1 ≤ 1000000000 := by
        have := HL1.out nv (K2.take i)
        rw [List.length_append]
        rw [List.length_take] at this
        omega
       generalize K2[i] = g at *
       by_cases hgh : g = h
       · have HN := Lib.hid (hno (.inl hgh))
         subst hgh
         clear hno hyes
         go_wp2
         go_roundw
         case rel => exact ⟨i + 1, by omega, by go_num, by show World.ownsRow _ _ _ _ _ _ _; rw [HN.out]; exact HOi.out, HBi, HKi⟩
         case measure => simp [intOf]; omega
       · obtain ⟨q1, q2⟩ := ne_list hgh
         have HIg := Lib.hid (HI.out g nv _ HBi.out)
         cases hin : inU S g nv with
         | false =>
           have HN := Lib.hid (hno (.inr hin))
           rw [hin] at HIg
           clear hno hyes hin hgh
           go_wp2_with (go_at_call 63; refine HIg.out.mono ?_; rintro e w4 ⟨rfl, hb4⟩; have HO4 := Lib.hid (own_below HOi.out hb4); have HB4 := Lib.hid (below_step HBi.out hb4); have HK4 := Lib.hid (HKi.out.below hb4); clear hb4 hx3)
           go_roundw
           case rel => exact ⟨i + 1, by omega, by go_num, by show World.ownsRow _ _ _ _ _ _ _; rw [HN.out]; exact HO4.out, HB4, HK4⟩
           case measure => simp [intOf]; omega
         | true =>
           have HN := Lib.hid (hyes hgh hin)
           rw [hin] at HIg
           clear hno hyes hin hgh
           go_wp2_with (first | (go_at_call 63; refine HIg.out.mono ?_; rintro e w4 ⟨rfl, hb4⟩; have HO4 := Lib.hid (own_below HOi.out hb4); have HB4 := Lib.hid (below_step HBi.out hb4); have HK4 := Lib.hid (HKi.out.below hb4); have x4 := (Xq.out.below hb4).cell; clear hb4 hx3 xq) | (go_at_call 64; refine (HA.out g _ HB4.out).mono ?_; rintro e w5 ⟨rfl, hb5⟩; have HO5 := Lib.hid (own_below HO4.out hb5); have HB5 := Lib.hid (below_step HB4.out hb5); have HK5 := Lib.hid (HK4.out.below hb5); clear hb5 x4) | (at_builtin; refine app_typed rfl _ _ 25 rfl w _ 35 i0 _ 4 56 Tryz.underlying25 hi hz0 hz1 hz2 rfl (by decide) (by decide) HO5.out HB5.out rfl 1 1 (Ent.cells ⟨h, 1, nv, addrU S g⟩) rfl rfl (Rte.cells_one _) hl4 ?_; intro v' w' hown' hb' hk'))
           have HO6 := Lib.hid (own_push_ent hown')
           have HB6 := Lib.hid hb'
           have HK6 := Lib.hid (HK5.out.trans hk')
           clear hown' hb' hk'
           go_roundw
           case rel => exact ⟨i + 1, by omega, by go_num, by show World.ownsRow _ _ _ _ _ _ _; rw [HN.out, ← List.append_assoc]; exact HO6.out, HB6, HK6⟩
           case measure => simp [intOf]; omega
     · have hie : i = K2.length := by omega
       have HO7 := HOi.out
       rw [hie, List.take_length, ← HSj.out] at HO7
       have HO8 := Lib.hid HO7
       have HK8 := Lib.hid (HK3.out.trans HKi.out)
       clear HOi HO7
       go_wp2
       go_roundw
       case rel => exact ⟨j + 1, by omega, by go_num, HO8, HBi, HK8⟩
       case measure => simp [intOf]; omega
  · have hje : j = K1.length := by omega
    have HO7 := HO.out
    rw [hje, List.take_length, ← HF.out] at HO7
    have HO8 := Lib.hid HO7
    clear HO HO7
    go_wp2
    go_ret
    exact ⟨⟨_, rfl, HO8.out⟩, HB.out⟩
end Go.Proofs.YtjdknhalcpkeaaaGreatDoor
