/- A walk: schema.Check. A walk: the fixed answer of layer 13. -/
import Derived.Test.YtlldjkhlhfnfeaaGreatDoorGm
namespace Go.Proofs.YtlldjkhlhfnfeaaGreatDoor
open Go Go.RowKit Go.Sort Sch Adr Mtr Tre

theorem path_pv {w : World} {A : Option Addr} {P : List ByteArray} {c : Nat} (h : Rd w 1 A P.length (sv P)) (hz : Zd A) (hp : 0 < P.length) (h1 : P.length ≤ c) (h2 : c ≤ maxLen) : ∃ b, A = some ⟨b, 0, none⟩ ∧ Pv w (.slice (some ⟨b, 0, none⟩) P.length c) P := by
  obtain ⟨ad, e, -⟩ := h.2 hp
  obtain ⟨b, e2⟩ := hz ad e
  subst e; subst e2
  exact ⟨b, rfl, b, c, rfl, h1, h2, hp, h⟩
theorem end_at (A : Option Addr) (cap : Nat) (L : List Line) (k : Nat) (w : World) (hR : Rd w 3 A L.length (lines L)) (hcap : L.length ≤ cap) (hc : cap ≤ maxLen) (hr : rightB L = true) (hk : k < L.length) :
    Calls Tryz.prog 51 #[.slice A L.length cap, .int .i64 k] w fun e w' => e = .returned (.int .i64 (endB L k : Nat)) ∧ Below w.heap.size w w' := by
  have := end_lines A cap L k w hR hcap hc
  rw [thereB_lt hr hk, if_pos rfl, Int.toNat_natCast] at this
  exact this
/-- The answer of a check. -/
def CheckEnd (L : List Line) (w : World) (e : Ending) (w' : World) : Prop :=
  ((rightB L = true ∧ ∃ v, e = .returned (.tuple #[v, .int .i64 0]) ∧ Pl w' w.heap.size 34 2 v ((checkB L).map fitem)) ∨ (rightB L = false ∧ e = .returned (.tuple #[.slice none 0 0, .int .i64 1]))) ∧ Below w.heap.size w w'
theorem check_no (A : Option Addr) (cap : Nat) (L : List Line) (w : World) (hR : Rd w 3 A L.length (lines L)) (hcap : L.length ≤ cap) (hc : cap ≤ maxLen) (hr : rightB L = false) :
    Calls Tryz.prog 20 #[.slice A L.length cap] w fun e w' => e = .returned (.tuple #[.slice none 0 0, .int .i64 1]) ∧ Below w.heap.size w w' := by
  have HC := right_lines A cap L w hR hcap hc
  rw [hr] at HC
  have HC2 := Lib.hid HC
  clear HC hR
  go_enter Tryz.func20, Tryz.ntmps20
  go_wp2_with fail
  refine HC2.out.mono ?_
  rintro e w2 ⟨rfl, hb2⟩
  go_wp2_with fail
  refine bodyPost_ret (results_tmp2 rfl _ _ _) rfl ?_
  exact ⟨rfl, hb2⟩
theorem pa_short {L : List Line} (hr : rightB L = true) {k : Nat} (hk : k < L.length) : (pa L k).length ≤ 16 ∧ 0 < (pa L k).length ∧ Shw (pa L k) := by
  have hd := (right_parts hr).2.1
  have h1 := pa_len hd hk
  have h2 := dep_nn hd hk
  exact ⟨by omega, by omega, by rw [← path_pa hd hk]; exact path_short hr hk⟩
theorem rule_len {P : List ByteArray} {r : Rule} (h : ruleOf P = some r) : r.path.length = P.length := match_len (by have := List.find?_some h; exact this)

theorem needs_le (P : List ByteArray) : (needsOf P).length ≤ 34 := by have := needsTo_len P 34; rwa [needsTo_all] at this
theorem lineF_len (L : List Line) (i : Nat) (r : Rule) (P : List ByteArray) : (lineF L i r P).length ≤ 36 := by
  have h1 := missF_len L i P (needsOf P)
  have h2 := needs_le P
  have h3 : (oneF L i r P).length ≤ 1 := by
    rcases oneF_cases L i r P with ⟨-, h⟩ | ⟨-, -, h⟩ | ⟨-, -, h⟩ | ⟨-, -, h⟩ <;> rw [h] <;> simp
  have h4 : (meantF L i r P).length ≤ 1 := by unfold meantF; split <;> simp
  unfold lineF
  rw [List.length_append, List.length_append]; omega
theorem faultAt_len (L : List Line) (i : Nat) : (faultAt L i).length ≤ 36 := by
  unfold faultAt
  split
  · split
    · simp
    · exact lineF_len _ _ _ _
  · simp
theorem check_len (L : List Line) (k : Nat) : (checkTo L k).length ≤ 36 * k := by
  induction k with
  | zero => simp [check_zero]
  | succ k ih =>
    have := faultAt_len L k
    unfold checkTo at ih ⊢
    rw [List.range_succ, List.flatMap_append, List.length_append, List.flatMap_cons, List.flatMap_nil, List.append_nil]; omega
theorem items_cells (F : List Fault) : ∀ y ∈ F.map fitem, ∀ u ∈ y.2, u.oneCell' = true := by
  intro y hy
  obtain ⟨f, -, rfl⟩ := List.mem_map.1 hy
  exact fitem_cells f

set_option maxHeartbeats 8000000 in
set_option maxRecDepth 100000 in
theorem check_yes (A : Option Addr) (cap : Nat) (L : List Line) (w : World) (hE : Env w) (hR : Rd w 3 A L.length (lines L)) (hcap : L.length ≤ cap) (hc : cap ≤ maxLen) (hr : rightB L = true) :
    Calls Tryz.prog 20 #[.slice A L.length cap] w fun e w' => (∃ v, e = .returned (.tuple #[v, .int .i64 0]) ∧ Pl w' w.heap.size 34 2 v ((checkB L).map fitem)) ∧ Below w.heap.size w w' := by
  obtain ⟨i0, hii, hz0, hz1, hz2⟩ := info_parts info_fault
  have HRg := right_lines A cap L w hR hcap hc
  rw [hr] at HRg
  have h200 := right_len hr
  have HRi := Lib.hid HRg
  have HRu := Lib.hid (fun W (hb : Below w.heap.size w W) => rules_any W (hE.below hb))
  have HPa := Lib.hid (fun (k : Nat) (hk : k < L.length) W (hb : Below w.heap.size w W) => path_lines A cap L k W (hR.below hb) hcap hc hr hk)
  have HEn := Lib.hid (fun (k : Nat) (hk : k < L.length) W (hb : Below w.heap.size w W) => end_at A cap L k W (hR.below hb) hcap hc hr hk)
  have HLi := Lib.hid (fun (k : Nat) (hk : k < L.length) Ar cr r b c pb pc P W (hb : Below w.heap.size w W) => line_any A cap L k Ar cr r b c pb pc P W (hE.below hb) (hR.below hb) hcap hc hr hk)
  have HFi := Lib.hid (fun Ar cr A2 c2 P W (hb : Below w.heap.size w W) => find_any Ar cr A2 c2 P W (hE.below hb))
  have HUn := Lib.hid (fun Ar cr A2 c2 P W (hb : Below w.heap.size w W) => unknown_any Ar cr A2 c2 P W (hE.below hb))
  have HPP : Hid (∀ k, k < L.length → pathB L k = pa L k) := fun k hk => path_pa (right_parts hr).2.1 hk
  have HSh := Lib.hid (fun (k : Nat) (hk : k < L.length) => pa_short hr hk)
  have HA0 : Hid (0 < L.length → aliveP (pa L 0) = true) := fun h => alive_zero hr h
  have HKn : Hid (∀ k, k < L.length → aliveP (pa L k) = true → ∀ r, ruleOf (pa L k) = some r → checkTo L (k + 1) = checkTo L k ++ lineF L k r (pa L k) ∧ (k + 1 < L.length → aliveP (pa L (k + 1)) = true)) := fun k hk ha r h =>
    ⟨check_known ha h, fun h2 => alive_step hr h2 ha (by unfold known; rw [h]; rfl)⟩
  have HSk : Hid (∀ k, k < L.length → aliveP (pa L k) = true → ruleOf (pa L k) = none → checkTo L (endB L k) = checkTo L k ++ [(pa L k, unknownOf (pa L k))] ∧ (endB L k < L.length → aliveP (pa L (endB L k)) = true)) := fun k hk ha h =>
    ⟨check_skip hr hk ha h, fun h2 => alive_end hr hk h2 ha⟩
  have HEb := Lib.hid (fun (k : Nat) (hk : k < L.length) => endB_le L k hk)
  have HCL := Lib.hid (check_len L)
  have HLL := Lib.hid (lineF_len L)
  have HAll := Lib.hid (check_all (L := L))
  clear hE hR HRg hr
  go_enter Tryz.func20, Tryz.ntmps20
  go_wp2_with fail
  refine HRi.out.mono ?_
  rintro e w1 ⟨rfl, hb1⟩
  have HB1 := Lib.hid hb1
  clear HRi hb1
  go_wp2_with fail
  refine (HRu.out w1 HB1.out).mono ?_
  rintro e w2 ⟨⟨v2, rfl, hv2⟩, hb2⟩
  have HB2 := Lib.hid (below_step HB1.out hb2)
  obtain ⟨Ar, cr, rfl, hcr1, hcr2, hRu⟩ := rules_read hv2
  have HRl := Lib.hid hRu
  clear HRu hv2 hRu hb2 HB1
  go_wp2
  go_loopw [5, 6] (fun v vi wr => ∃ k : Nat, k ≤ L.length ∧ vi = .int .i64 k ∧ Hid (k < L.length → aliveP (pa L k) = true) ∧ Hid (Pl wr w2.heap.size 34 2 v ((checkTo L k).map fitem)) ∧ Hid (Below w2.heap.size w2 wr)) (fun _ vi _ => L.length - (intOf vi).toNat)
  case atStart => exact ⟨0, Nat.zero_le _, rfl, HA0, Pl.nil _ _ _ _, Below.refl _ _⟩
  case round =>
    clear HA0
    obtain ⟨k, hk, rfl, HA, HP, HB⟩ := hrel
    by_cases hlt : k < L.length
    · have ha := HA.out hlt
      have HBw := Lib.hid (below_step HB2.out HB.out)
      have HPk := HPa.out k hlt wr HBw.out
      have hks := HKn.out k hlt ha
      have hss := HSk.out k hlt ha
      have hsh := HSh.out k hlt
      have HEk := Lib.hid (HEn.out k hlt)
      have HLk := Lib.hid (HLi.out k hlt)
      have HEB := HEb.out k hlt
      have hcl := HCL.out k
      have hll := fun r => HLL.out k r (pa L k)
      rw [HPP.out k hlt] at HPk
      generalize pa L k = P at *
      have HKS := Lib.hid hks
      have HSS := Lib.hid hss
      have HSP := Lib.hid hsh.2.2
      have HLG := Lib.hid hll
      obtain ⟨hp16, hp0, -⟩ := hsh
      unfold PathEnd at HPk
      clear HA ha hks hss hll
      go_wp2_with fail
      refine HPk.mono ?_
      rintro e w3 ⟨A3, c3, rfl, hc31, hc32, hrd, hz, hb3⟩
      obtain ⟨pb, rfl, hpv⟩ := path_pv hrd hz hp0 hc31 hc32
      have HPv := Lib.hid hpv
      have HB3 := Lib.hid (below_step HB.out hb3)
      have HBw3 := Lib.hid (below_step HB2.out HB3.out)
      have HP3 := Lib.hid (HP.out.below hb3)
      have HF := Lib.hid (HFi.out Ar cr (some ⟨pb, 0, none⟩) c3 P w3 HBw3.out (HRl.out.below HB3.out) hrd (by omega) HSP.out)
      clear HPk HP HB HBw hpv hrd hz hb3
      go_wp2_with fail
      refine HF.out.mono ?_
      clear HF
      unfold FindEnd
      rintro e w4 ⟨⟨hno, rfl⟩ | ⟨r, b, c, hyes, hmem, rfl, hrc1, hrc2, hrrd⟩, hb4⟩
      · have hS := HSS.out hno
        have HB4 := below_step HB3.out hb4
        have HP4 := HP3.out.below hb4
        have HPv4 := HPv.out.below hb4
        clear HKS HSS HP3 HB3 HPv hb4 HBw3
        obtain ⟨wo, hwo⟩ : ∃ wo, w4.alloc (.cells #[.slice none 0 0, .bool false, .bool false] 74) = wo := ⟨_, rfl⟩
        have hbo : Below w4.heap.size w4 wo := by rw [← hwo]; exact (Below.refl _ _).alloc (Nat.le_refl _) _
        have HBo := Lib.hid (below_step HB4 hbo)
        have HPo := Lib.hid (HP4.below hbo)
        have HPvo := Lib.hid (HPv4.below hbo)
        have HUk := Lib.hid (HUn.out Ar cr (some ⟨pb, 0, none⟩) c3 P wo (below_step HB2.out HBo.out) (HRl.out.below HBo.out) HPvo.out.rd.1 (by omega) hc31 hc32 (by omega) HSP.out)
        have HST := Lib.hid hS.1
        have HAL := Lib.hid hS.2
        generalize unknownOf P = u at *
        have HWO := Lib.hid hwo
        clear HB4 HP4 HPv4 hbo hS hno hwo
        go_wp2_with fail
        rw [HWO.out]
        refine HUk.out.mono ?_
        rintro e w5 ⟨rfl, hb5⟩
        have HB5 := Lib.hid (below_step HBo.out hb5)
        have HP5 := Lib.hid (HPo.out.below hb5)
        have HPv5 := Lib.hid (HPvo.out.below hb5)
        clear HUk HPo HPvo HBo hb5 HWO
        go_wp2_with (at_builtin; refine app_item rfl _ _ 29 rfl w2 w5 34 i0 _ 2 32 Tryz.underlying29 hii hz0 hz1 hz2 rfl (by decide) (by decide) HP5.out HB5.out rfl (.slice (some ⟨pb, 0, none⟩) P.length c3) (fitem (P, u)) rfl (fitem_cells _) HPv5.out rfl (by rw [List.length_map]; omega) ?_; intro v' w' hown' hb')
        have HB6 := Lib.hid hb'
        have HP6 := Lib.hid hown'
        clear hown' hb' HP5 HB5 HPv5
        refine (HEk.out _ (below_step HB2.out HB6.out)).mono ?_
        rintro e w7 ⟨rfl, hb7⟩
        obtain ⟨q, hq⟩ : ∃ q, endB L k = q + 1 := ⟨endB L k - 1, by omega⟩
        rw [hq] at HST HAL HEB ⊢
        have hq1 : ((q + 1 : Nat) : Int) - 1 = (q : Int) := by omega
        have HB7 := Lib.hid (below_step HB6.out hb7)
        have HP7 : Hid (Pl w7 w2.heap.size 34 2 v' ((checkTo L (q + 1)).map fitem)) := by
          show Pl _ _ _ _ _ _
          rw [HST.out, List.map_append]; exact HP6.out.below hb7
        clear HP6 HB6 hb7 hq HST HEk
        go_wp2_with fail
        go_roundw
        case rel => exact ⟨q + 1, by omega, by go_num, HAL, HP7, HB7⟩
        case measure => simp [intOf]; omega
      · have hS := HKS.out r hyes
        have HB4 := below_step HB3.out hb4
        have HP4 := HP3.out.below hb4
        have HPv4 := HPv.out.below hb4
        have hrl := rule_len hyes
        have hcl2 := HLG.out r
        clear HKS HSS HP3 HB3 HPv hb4 HBw3 HLG
        obtain ⟨wo, hwo⟩ : ∃ wo, w4.alloc (.cells #[.slice (some ⟨b, 0, none⟩) r.path.length c, .bool r.one, .bool r.needed] 74) = wo := ⟨_, rfl⟩
        have hbo : Below w4.heap.size w4 wo := by rw [← hwo]; exact (Below.refl _ _).alloc (Nat.le_refl _) _
        have HBo := Lib.hid (below_step HB4 hbo)
        have HPo := Lib.hid (HP4.below hbo)
        have HPvo := HPv4.below hbo
        have HLk2 := Lib.hid (HLk.out Ar cr r b c pb c3 P wo (below_step HB2.out HBo.out) (HRl.out.below HBo.out) hmem (hrrd.below hbo) hrc1 HPvo hrl (by omega) HSP.out)
        have HST := Lib.hid hS.1
        have HAL := Lib.hid hS.2
        generalize lineF L k r P = lf at *
        have HWO := Lib.hid hwo
        clear HB4 HP4 HPv4 HPvo hbo hS hyes hwo hrrd hrl HLk
        go_wp2_with fail
        rw [HWO.out]
        refine HLk2.out.mono ?_
        rintro e w5 ⟨⟨v5, rfl, hv5⟩, hb5⟩
        have hyc := items_cells lf
        have hyl : (lf.map fitem).length = lf.length := List.length_map _
        obtain ⟨ys, hys⟩ : ∃ ys, lf.map fitem = ys := ⟨_, rfl⟩
        rw [hys] at hv5 hyc hyl
        have HYS := Lib.hid hys
        have HYC := Lib.hid hyc
        have HYL : Hid (((checkTo L k).map fitem).length + ys.length ≤ 1000000000) := by show _ ≤ _; rw [List.length_map]; omega
        obtain ⟨A5, c5, rfl, hc51, hc52, hpd5, hn5⟩ := hv5.read
        have HB5 := Lib.hid (below_step HBo.out hb5)
        have HP5 := Lib.hid (HPo.out.below hb5)
        have HPD := Lib.hid hpd5
        have HN5 := Lib.hid hn5
        clear HLk2 HPo HBo hb5 HWO hv5 hpd5 hn5 hys hyc hyl
        go_wp2_with (at_builtin; refine app_items rfl _ _ 29 rfl w2 w5 34 i0 _ 2 32 Tryz.underlying29 hii hz0 hz1 hz2 rfl (by decide) (by decide) HP5.out HB5.out rfl A5 c5 ys rfl HPD.out HN5.out HYC.out HYL.out ?_; intro v' w' hown' hb')
        have HB6 := Lib.hid hb'
        have HP6 : Hid (Pl w' w2.heap.size 34 2 v' ((checkTo L (k + 1)).map fitem)) := by
          show Pl _ _ _ _ _ _
          rw [HST.out, List.map_append, HYS.out]; exact hown'
        clear hown' hb' HP5 HB5 HPD HN5 HST HYS HYC HYL
        go_roundw
        case rel => exact ⟨k + 1, by omega, by go_num, HAL, HP6, HB6⟩
        case measure => simp [intOf]; omega
    · obtain rfl : k = L.length := by omega
      have HPF := HP.out
      rw [HAll.out] at HPF
      have HPG := Lib.hid (HPF.base HB2.out.size)
      have HBG := Lib.hid (below_step HB2.out HB.out)
      clear HP HB HPF HA
      go_wp2_with fail
      refine bodyPost_ret (results_tmp2 rfl _ _ _) rfl ?_
      exact ⟨⟨_, rfl, HPG.out⟩, HBG.out⟩
theorem check_any (A : Option Addr) (cap : Nat) (L : List Line) (w : World) (hE : Env w) (hR : Rd w 3 A L.length (lines L)) (hcap : L.length ≤ cap) (hc : cap ≤ maxLen) :
    Calls Tryz.prog 20 #[.slice A L.length cap] w (CheckEnd L w) := by
  cases hr : rightB L with
  | false => exact (check_no A cap L w hR hcap hc hr).mono fun e w' ⟨h1, h2⟩ => ⟨.inr ⟨hr, h1⟩, h2⟩
  | true => exact (check_yes A cap L w hE hR hcap hc hr).mono fun e w' ⟨⟨v, h1, h3⟩, h2⟩ => ⟨.inl ⟨hr, v, h1, h3⟩, h2⟩
end Go.Proofs.YtlldjkhlhfnfeaaGreatDoor

namespace Sch
open Go Go.Lib Adr Mtr Tre
def kHosts : ByteArray := ⟨#[104, 111, 115, 116, 115]⟩
/-- The fixed answer's lines. -/
def awkL : List Line := [⟨0, ⟨#[104, 111, 115, 116, 115]⟩, 0⟩, ⟨1, ⟨#[97]⟩, 0⟩, ⟨1, ⟨#[98]⟩, 0⟩, ⟨2, ⟨#[105, 112]⟩, 0⟩, ⟨3, ⟨#[49, 48, 46, 48, 46, 48, 46, 49]⟩, 0⟩, ⟨0, ⟨#[120]⟩, 0⟩]
def awkP : List ByteArray := [⟨#[104, 111, 115, 116, 115]⟩, ⟨#[97]⟩, ⟨#[105, 112]⟩]
theorem awk_right : rightB awkL = true := by decide +kernel
theorem awk_check : checkB awkL = [(awkP, 1), ([⟨#[120]⟩], 3)] := by decide +kernel
theorem awk_needs : needsOf [wBind, ⟨#[49, 46, 50, 46, 51, 46, 52]⟩] = [wHost, wMac, wVni] := by decide +kernel
theorem awk_t1 : typeB tAction wDeny = true := by decide +kernel
theorem awk_t2 : typeB tVni ⟨#[48]⟩ = false := by decide +kernel
end Sch
namespace Go.Proofs.YtlldjkhlhfnfeaaGreatDoor
open Go Go.RowKit Go.Sort Sch Adr Mtr Tre

set_option maxHeartbeats 4000000 in
set_option maxRecDepth 100000 in
theorem awake13_any (w : World) (hE : Env w) : Calls Tryz.prog 18 #[] w fun e w' => e = .returned (.bool true) ∧ Below w.heap.size w w' := by
  obtain ⟨w0, hw0⟩ : ∃ w0, w.alloc (.cells (lines awkL).toArray 64) = w0 := ⟨_, rfl⟩
  have hb0 : Below w.heap.size w w0 := by rw [← hw0]; exact (Below.refl _ _).alloc (Nat.le_refl _) _
  have hR0 : Rd w0 3 (some ⟨w.heap.size, 0, none⟩) 6 (lines awkL) := by
    rw [← hw0]
    refine ⟨lines_length _, fun _ => ⟨_, rfl, by simp, fun j u hu => ?_⟩⟩
    rw [add_plain, Nat.zero_add, World.cell?_alloc_at _ _ _ _ rfl]
    simpa using hu
  have H1 := Lib.hid (check_yes (some ⟨w.heap.size, 0, none⟩) 6 awkL w0 (hE.below hb0) hR0 (Nat.le_refl 6) (by unfold maxLen; omega) awk_right)
  rw [awk_check] at H1
  have HB0 := Lib.hid hb0
  have HE := Lib.hid hE
  have HW0 := Lib.hid hw0
  have HN := Lib.hid (fun W (hb : Below w.heap.size w W) (b : Nat) (hP : Rd W 1 (some ⟨b, 0, none⟩) 2 (sv [wBind, ⟨#[49, 46, 50, 46, 51, 46, 52]⟩])) => Needs_any (some ⟨b, 0, none⟩) 2 [wBind, ⟨#[49, 46, 50, 46, 51, 46, 52]⟩] W (HE.out.below hb) hP (by decide) (fun s hs => (by decide +kernel : ∀ s ∈ ([wBind, ⟨#[49, 46, 50, 46, 51, 46, 52]⟩] : List ByteArray), s.size ≤ 100000000) s hs))
  have HT1 := Lib.hid (fun W (hb : Below w.heap.size w W) => type_any tAction wDeny W (HE.out.below hb) (by decide))
  have HT2 := Lib.hid (fun W (hb : Below w.heap.size w W) => type_any tVni ⟨#[48]⟩ W (HE.out.below hb) (by decide))
  rw [awk_t1] at HT1
  rw [awk_t2] at HT2
  rw [awk_needs] at HN
  have HQ := Lib.hid (fun A c A2 W => refEqual_any A c awkP A2 3 awkP W)
  unfold wHost at HN
  clear hE hb0 hR0 hw0
  go_enter Tryz.func18, Tryz.ntmps18
  go_wp2_with fail
  change Calls _ _ _ (w.alloc (.cells (lines awkL).toArray 64)) _
  rw [HW0.out]
  refine H1.out.mono ?_
  rintro e w1 ⟨⟨v, rfl, hv⟩, hb1⟩
  obtain ⟨A, c, rfl, hc1, hc2, hpd, -⟩ := hv.read
  have HB1 := Lib.hid (below_step HB0.out hb1)
  have HPD := Lib.hid hpd
  clear hv hb1 hpd H1 HW0
  have hlen : (List.map fitem [(awkP, 1), ([(⟨#[120]⟩ : ByteArray)], 3)]).length = 2 := rfl
  rw [hlen] at hc1 ⊢
  clear hlen
  obtain ⟨w2, hw2⟩ : ∃ w2, w1.alloc (.cells #[.string wBind, .string ⟨#[49, 46, 50, 46, 51, 46, 52]⟩] 9) = w2 := ⟨_, rfl⟩
  have hb2 : Below w1.heap.size w1 w2 := by rw [← hw2]; exact (Below.refl _ _).alloc (Nat.le_refl _) _
  have hl2 : Rd w2 1 (some ⟨w1.heap.size, 0, none⟩) 2 (sv [wBind, ⟨#[49, 46, 50, 46, 51, 46, 52]⟩]) := by rw [← hw2]; exact rd_lit w1 [wBind, ⟨#[49, 46, 50, 46, 51, 46, 52]⟩] _
  have HN2 := Lib.hid (HN.out w2 (below_step HB1.out hb2) _ hl2)
  have HB2 := Lib.hid (below_step HB1.out hb2)
  have HPD2 := Lib.hid (HPD.out.below hb2)
  unfold wBind at hw2
  clear hb2 hl2 HN HB1 HPD
  go_wp2_with fail
  refine HN2.out.mono ?_
  rintro e w3 ⟨An, cn, rfl, hn1, hn2, hrn, -, hb3⟩
  have HB3 := Lib.hid (below_step HB2.out hb3)
  have HPD3 := HPD2.out.below hb3
  clear HN2 hw2 hb3 HB2 HPD2
  obtain ⟨B, O, v0, rfl, hlt, hadd, hpv0, x00, x0⟩ := HPD3.at (i := 0) (by decide)
  obtain ⟨B', O', v1, hA, -, hadd1, -, -, x1⟩ := HPD3.at (i := 1) (by decide)
  injection hA with hA
  injection hA with e1 e2
  subst e1 e2
  have y0 : w3.cell? ⟨B, O + 1, none⟩ = some (.int .i64 1) := by simpa using x0 0 _ rfl
  have y1 : w3.cell? ⟨B, O + 3, none⟩ = some (.int .i64 3) := by simpa using x1 0 _ rfl
  have z0 : w3.cell? ⟨B, O, none⟩ = some v0 := by simpa using x00
  obtain ⟨Bn, On, rfl, -, -, s0⟩ := hrn.strAt (i := 0) (by decide)
  simp only [List.getElem_cons_zero, Nat.add_zero] at s0
  clear x00 x0 x1 HPD3 hadd1 hadd
  obtain ⟨b0, c0, rfl, hc01, hc02, -, -, hpv0', hrd0⟩ := hpv0.slice
  change Rd w3 1 (some ⟨b0, 0, none⟩) awkP.length (sv awkP) at hrd0
  change w3.cell? ⟨B, O, none⟩ = some (.slice (some ⟨b0, 0, none⟩) 3 c0) at z0
  obtain ⟨w4, hw4⟩ : ∃ w4, w3.alloc (.cells #[.string ⟨#[104, 111, 115, 116, 115]⟩, .string ⟨#[97]⟩, .string ⟨#[105, 112]⟩] 9) = w4 := ⟨_, rfl⟩
  have hb4 : Below w3.heap.size w3 w4 := by rw [← hw4]; exact (Below.refl _ _).alloc (Nat.le_refl _) _
  have hl4 : Rd w4 1 (some ⟨w3.heap.size, 0, none⟩) awkP.length (sv awkP) := by rw [← hw4]; exact rd_lit w3 awkP _
  have HB4 := Lib.hid (below_step HB3.out hb4)
  have HQ4 := HQ.out (some ⟨b0, 0, none⟩) c0 (some ⟨w3.heap.size, 0, none⟩) w4 (hrd0.below hb4) hl4 (by unfold maxLen; decide) (by unfold maxLen; decide)
  simp only [decide_true] at HQ4
  have HQ5 : Hid (Calls Tryz.prog 21 #[.slice (some ⟨b0, 0, none⟩) 3 c0, .slice (some ⟨w3.heap.size, 0, none⟩) 3 3] w4 fun e w' => e = .returned (.bool true) ∧ Below w4.heap.size w4 w') := HQ4
  have y14 := (hb4.cell (p := ⟨B, O + 3, none⟩) (Lib.lt_of_cell y1)).trans y1
  have s04 := (hb4.cell (p := ⟨Bn, On, none⟩) (Lib.lt_of_cell s0)).trans s0
  have HY := Lib.hid y14
  have HS := Lib.hid s04
  unfold tAction wDeny at HT1
  unfold tVni at HT2
  clear hb4 hl4 HB3 HQ HQ4 hrd0 hpv0' hpv0 hrn y14 s04
  go_wp2_with fail
  refine HQ5.out.mono ?_
  rintro e w5 ⟨rfl, hb5⟩
  have y5 := (hb5.cell (p := ⟨B, O + 3, none⟩) (Lib.lt_of_cell HY.out)).trans HY.out
  have s5 := (hb5.cell (p := ⟨Bn, On, none⟩) (Lib.lt_of_cell HS.out)).trans HS.out
  have HB5 := Lib.hid (below_step HB4.out hb5)
  clear HQ5 HB4 hb5 hw4 y0 y1 z0 s0
  go_wp2_with fail
  refine (HT1.out w5 HB5.out).mono ?_
  rintro e w6 ⟨rfl, hb6⟩
  have HB6 := Lib.hid (below_step HB5.out hb6)
  clear HT1 HB5 hb6 y5 s5
  go_wp2_with fail
  refine (HT2.out w6 HB6.out).mono ?_
  rintro e w7 ⟨rfl, hb7⟩
  go_wp2_with fail
  go_ret
  exact ⟨rfl, below_step HB6.out hb7⟩
end Go.Proofs.YtlldjkhlhfnfeaaGreatDoor
