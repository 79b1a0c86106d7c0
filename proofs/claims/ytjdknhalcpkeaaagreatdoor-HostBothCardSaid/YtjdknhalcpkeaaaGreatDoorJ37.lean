/- Walks of the reference: Set, and the entries as the document's. -/
import Derived.Test.YtjdknhalcpkeaaaGreatDoorJ36
namespace Hst
open Go Go.Lib Rte
theorem set_step {L : List Ent} {k : Nat} (hk : k < L.length) : setE (L.take (k + 1)) = putE (setE (L.take k)) L[k] := by
 unfold setE
 rw [List.take_succ_eq_append_getElem hk, List.foldl_append]; rfl
end Hst
namespace Go.Proofs.YtjdknhalcpkeaaaGreatDoor
open Go Go.RowKit Go.Sort Rte Hst
def Er (w : World) (v : Value) (M : List Ent) : Prop := ∃ A c, v = .slice A M.length c ∧ M.length ≤ c ∧ c ≤ maxLen ∧ Rd w 4 A M.length (ents M) ∧ (A = none → c = 0)
theorem Er.nil (w : World) : Er w (.slice none 0 0) [] := ⟨none, 0, rfl, Nat.le_refl _, by unfold maxLen; omega, Rd.nil, fun _ => rfl⟩
set_option maxHeartbeats 8000000 in
set_option maxRecDepth 100000 in
theorem rset_any (A : Option Addr) (c : Nat) (L : List Ent) (w : World) (hR : Rd w 4 A L.length (ents L)) (hL : L.length ≤ 900000000) :
 Calls Tryz.prog 18 #[.slice A L.length c] w (EntsRd w (setE L)) := by
 have HR := Lib.hid hR
 clear hR
 unfold EntsRd
 go_enter Tryz.func18, Tryz.ntmps18
 go_wp2
 go_loopw [3, 4] (fun v vi wr => ∃ k : Nat, k ≤ L.length ∧ vi = .int .i64 k ∧ Hid (Er wr v (setE (L.take k))) ∧ Hid (Below w.heap.size w wr)) (fun _ vi _ => L.length - (intOf vi).toNat)
 case atStart => exact ⟨0, Nat.zero_le _, rfl, Er.nil _, Below.refl _ _⟩
 case round =>
  obtain ⟨k, hk, rfl, HE, HB⟩ := hrel
  by_cases hlt : k < L.length
  · obtain ⟨B2, O2, rfl, hab2, hadd2, y0, y1, y2, y3⟩ := (HR.out.below HB.out).ent hlt
    obtain ⟨A1, c1, rfl, g1, g2, g3, g4⟩ := HE.out
    have hst := set_step hlt
    have hlen : (setE (L.take k)).length ≤ 900000000 := Nat.le_trans (setE_len _) (by rw [List.length_take]; omega)
    have hP := rput_any A1 c1 (setE (L.take k)) L[k] wr g3 g1 g2 g4 hlen (setE_up _)
    rw [← hst] at hP
    unfold Ent.agg at hP
    have HP := Lib.hid hP
    generalize L[k] = x at *
    generalize setE (L.take k) = T1 at *
    generalize hT : setE (L.take (k + 1)) = T2 at *
    have HT := Lib.hid hT
    clear hst hP hT g1 g2 g3 g4 HE
    go_wp2_with fail
    refine HP.out.mono ?_
    unfold EntsRd
    rintro e w2 ⟨A2, c2, rfl, f1, f2, f3, f4, hb2⟩
    have HE2 : Hid (Er w2 (.slice A2 T2.length c2) T2) := ⟨A2, c2, rfl, f1, f2, f3, f4⟩
    have HB2 := Lib.hid (below_step HB.out hb2)
    clear f1 f2 f3 f4 hb2 HB y0 y1 y2 y3
    go_wp2_with fail
    go_roundw
    case rel => exact ⟨k + 1, by omega, by go_num, by rw [HT.out]; exact HE2, HB2⟩
    case measure => simp [intOf]; omega
  · have hk' : L.take k = L := by rw [show k = L.length by omega, List.take_length]
    rw [hk'] at HE
    obtain ⟨A1, c1, rfl, g1, g2, g3, g4⟩ := HE.out
    clear HE hk'
    have hkL : k = L.length := by omega
    go_wp2
    go_ret
    exact ⟨A1, c1, rfl, g1, g2, g3, g4, HB.out⟩
def RefsEnd (w : World) (L : List Ent) (e : Ending) (w' : World) : Prop :=
 (∃ v, e = .returned v ∧ w'.ownsRow w.heap.size 36 4 v L.length (ents L)) ∧ Below w.heap.size w w'
set_option maxHeartbeats 8000000 in
set_option maxRecDepth 100000 in
theorem refs_own (A : Option Addr) (c : Nat) (L : List Ent) (w : World) (hR : Rd w 4 A L.length (ents L)) (hL : L.length ≤ 900000000) :
 Calls Tryz.prog 15 #[.slice A L.length c] w (RefsEnd w L) := by
 obtain ⟨i0, hi, hz0, hz1, hz2⟩ := info_parts info_rent
 have HR := Lib.hid hR
 clear hR
 unfold RefsEnd
 go_enter Tryz.func15, Tryz.ntmps15
 go_wp2
 go_loopw [3, 8] (fun v vi wr => ∃ k : Nat, k ≤ L.length ∧ vi = .int .i64 k ∧ Hid (wr.ownsRow w.heap.size 36 4 v (L.take k).length (ents (L.take k))) ∧ Hid (Below w.heap.size w wr)) (fun _ vi _ => L.length - (intOf vi).toNat)
 case atStart => exact ⟨0, Nat.zero_le _, rfl, World.ownsRow_nil _ _ _ _, Below.refl _ _⟩
 case round =>
  obtain ⟨k, hk, rfl, HO, HB⟩ := hrel
  by_cases hlt : k < L.length
  · obtain ⟨B2, O2, rfl, hab2, hadd2, y0, y1, y2, y3⟩ := (HR.out.below HB.out).ent hlt
    have hst : L.take (k + 1) = L.take k ++ [L[k]] := List.take_succ_eq_append_getElem hlt
    have hlen : (L.take k).length + 1 ≤ 1000000000 := by rw [List.length_take]; omega
    generalize L[k] = x at *
    generalize L.take k = T1 at *
    generalize hT : L.take (k + 1) = T2 at *
    have HT := Lib.hid hT
    have HST := Lib.hid hst
    have HO2 := Lib.hid (HO.out.alloc (.cells #[.string x.host, .int .i64 x.kind, .string x.key, .string x.val] 35))
    have HB2 := Lib.hid (HB.out.alloc HB.out.size (.cells #[.string x.host, .int .i64 x.kind, .string x.key, .string x.val] 35))
    clear hst hT HO
    go_wp2_with (at_builtin; refine app_new rfl _ _ 29 rfl w (wr.alloc (.cells #[.string x.host, .int .i64 x.kind, .string x.key, .string x.val] 35)) 36 i0 _ 4 56 Tryz.underlying29 hi hz0 hz1 hz2 rfl (by decide) (by decide) HO2.out HB2.out rfl 1 1 [.string x.host, .int .i64 x.kind, .string x.key, .string x.val] (by show Value.slice (some ⟨wr.heap.size + 1, 0, none⟩) 1 1 = _; simp) rfl (cells_ent x) (by omega) ?_; intro v4 w4 h4 b4)
    have HO4 := Lib.hid (own_push_ent h4)
    have HB4 := Lib.hid b4
    rw [← HST.out] at HO4
    clear h4 b4 y0 y1 y2 y3 HO2 HB2
    go_roundw
    case rel => exact ⟨k + 1, by omega, by go_num, by rw [HT.out]; exact HO4, HB4⟩
    case measure => simp [intOf]; omega
  · have hk' : L.take k = L := by rw [show k = L.length by omega, List.take_length]
    rw [hk'] at HO
    have hkL : k = L.length := by omega
    go_wp2
    go_ret
    exact ⟨⟨_, rfl, HO.out⟩, HB.out⟩
end Go.Proofs.YtjdknhalcpkeaaaGreatDoor
