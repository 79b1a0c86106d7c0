/- The law HostSet. -/
import Derived.Deep.RegionHeld3
import Derived.Test.YtjdknhalcpkeaaaGreatDoorJ42
import Derived.Test.YtjdknhalcpkeaaaGreatDoorJ46
namespace Hst
open Go Go.Lib Rte
def bigE (x : Ent) : Bool := decide (100 < x.host.size) || decide (100 < x.key.size) || decide (100 < x.val.size)
theorem cb_vals : ∀ a b : List UInt8, compareBytes a b = -1 ∨ compareBytes a b = 0 ∨ compareBytes a b = 1
 | [], [] => by simp [compareBytes]
 | [], _ :: _ => by simp [compareBytes]
 | _ :: _, [] => by simp [compareBytes]
 | x :: a, y :: b => by
   unfold compareBytes
   split
   · exact .inl rfl
   · split
     · exact .inr (.inr rfl)
     · exact cb_vals a b
theorem ci_vals (x y : Int) : compareInt x y = -1 ∨ compareInt x y = 0 ∨ compareInt x y = 1 := by
 unfold compareInt
 split
 · exact .inl rfl
 · split
   · exact .inr (.inr rfl)
   · exact .inr (.inl rfl)
theorem or_vals {x y : Int} (hx : x = -1 ∨ x = 0 ∨ x = 1) (hy : y = -1 ∨ y = 0 ∨ y = 1) : orC x y = -1 ∨ orC x y = 0 ∨ orC x y = 1 := by
 unfold orC
 split
 · exact hy
 · exact hx
theorem cmpE_vals (a b : Ent) : cmpE a b = -1 ∨ cmpE a b = 0 ∨ cmpE a b = 1 :=
 or_vals (cb_vals _ _) (or_vals (ci_vals _ _) (or_vals (cb_vals _ _) (cb_vals _ _)))
def wantE (a b : Ent) : Int := if aheadB b a then 1 else if aheadB a b then -1 else 0
theorem want_cmp (a b : Ent) : wantE a b = cmpE a b := by
 unfold wantE aheadB
 have h1 := cmpE_vals a b
 have h2 := pre_ent.anti b a
 rcases h1 with h | h | h
 · rw [if_neg (by rw [decide_eq_true_eq, h2]; omega), if_pos (decide_eq_true (by omega)), h]
 · rw [if_neg (by rw [decide_eq_true_eq, h2]; omega), if_neg (by rw [decide_eq_true_eq]; omega), h]
 · rw [if_pos (decide_eq_true (h2.2 (by omega))), h]
end Hst
namespace Go.Proofs.YtjdknhalcpkeaaaGreatDoor
open Go Go.RowKit Go.Sort Rte Hst
theorem app_srcL {P : Program} {ops : Array Oper} {rest : List Oper} {o : Oper} {a : Act} {Q : Exit → Act → World → Prop} (hgd : o.guard = none) (s x : Operand) (t : TypeId)
 (ho : o.op = .call { callee := .builtin .append, args := #[s, x], argTypes := #[t, t] })
 (w0 wr : World) (e : TypeId) (i : TypeInfo) (z : Value) (size bytes : Nat) (ht : P.underlying t = some (.slice e)) (hi : P.info? e = some i) (hz : i.zero = some z)
 (hsize : i.size = size) (hby : i.bytes = bytes) (hzs : z.cells.size = size) (hsz : 0 < size) (hb64 : bytes ≤ 64)
 {v : Value} {n : Nat} {xs : List Value} (hown : wr.ownsRow w0.heap.size e size v n xs) (hb : Below w0.heap.size w0 wr) (hs : a.eval s = v)
 (A : Option Addr) (m c : Nat) (news : List Value) (hx : a.eval x = .slice A m c) (hR : Rd wr size A m news) (hnil : A = none → c = 0) (h1 : ∀ u ∈ news, u.oneCell' = true)
 (hN : n + m ≤ 1000000000)
 (h : ∀ v' w', w'.ownsRow w0.heap.size e size v' (n + m) (xs ++ news) → Below w0.heap.size w0 w' → wpList P ops Q rest (a.put o.dst v') w') :
 wpList P ops Q (o :: rest) a wr := by
 have hbytes : (n + m) * bytes ≤ 140737488355328 := Nat.le_trans (Nat.mul_le_mul hN hb64) (by decide)
 rcases A with _ | ad
 · have hm : m = 0 := by
    rcases Nat.eq_zero_or_pos m with h0 | h0
    · exact h0
    · obtain ⟨ad, h, -⟩ := hR.2 h0
      cases h
   subst hm
   have hn : news = [] := List.eq_nil_of_length_eq_zero (by simpa using hR.1)
   subst hn
   obtain rfl := hnil rfl
   exact wpList_append_own_none hgd s x t ho w0.heap.size e i size ht hi v n xs hs hown hx (h v wr (by simpa using hown) hb)
 · refine wpList_append_own _ hgd s x t ho w0.heap.size e i z size bytes ht hi hz hsize hby hzs hsz v n xs hs hown ad m c news hx hR.1 ?_ h1 (by unfold maxLen; omega) hbytes hb.size ?_
   · intro j u hu
     obtain ⟨ad', e', -, hc⟩ := hR.cell hu
     injection e' with e'
     subst e'
     exact hc
   · intro v' w' hown' hg _
     exact h v' w' hown' (hb.grown hg hb.size fun q hq => (hown.lt q hq).1)
theorem cel_pair (w : World) (T : TypeId) (x y : Ent) :
 Cel ((w.alloc (.cells #[.string x.host, .int .i64 x.kind, .string x.key, .string x.val] T)).alloc (.cells #[.string y.host, .int .i64 y.kind, .string y.key, .string y.val] T)).drew w.heap.size 0 x ∧
 Cel ((w.alloc (.cells #[.string x.host, .int .i64 x.kind, .string x.key, .string x.val] T)).alloc (.cells #[.string y.host, .int .i64 y.kind, .string y.key, .string y.val] T)).drew (w.heap.size + 1) 0 y ∧
 Below w.heap.size w ((w.alloc (.cells #[.string x.host, .int .i64 x.kind, .string x.key, .string x.val] T)).alloc (.cells #[.string y.host, .int .i64 y.kind, .string y.key, .string y.val] T)).drew := by
 have h1 : Cel (w.alloc (.cells #[.string x.host, .int .i64 x.kind, .string x.key, .string x.val] T)) w.heap.size 0 x := by
  refine ⟨by simp, ?_, ?_, ?_, ?_⟩ <;> rw [World.cell?_alloc_at _ _ _ _ rfl] <;> rfl
 have h2 : Cel ((w.alloc (.cells #[.string x.host, .int .i64 x.kind, .string x.key, .string x.val] T)).alloc (.cells #[.string y.host, .int .i64 y.kind, .string y.key, .string y.val] T)) (w.heap.size + 1) 0 y := by
  refine ⟨by simp, ?_, ?_, ?_, ?_⟩ <;> rw [World.cell?_alloc_at _ _ _ _ (by simp)] <;> rfl
 refine ⟨(h1.below ((Below.refl _ _).alloc (Nat.le_refl _) _)).below (Below.refl _ _).drew, h2.below (Below.refl _ _).drew, ?_⟩
 exact (((Below.refl _ _).alloc (Nat.le_refl _) _).alloc (by simp) _).drew
theorem own_lit2 (w : World) (T : TypeId) (base : Nat) (hb : base ≤ w.heap.size) (a b : Ent) :
 (w.alloc (.cells #[.string a.host, .int .i64 a.kind, .string a.key, .string a.val, .string b.host, .int .i64 b.kind, .string b.key, .string b.val] T)).ownsRow base T 4 (.slice (some ⟨w.heap.size, 0, none⟩) [a, b].length [a, b].length) [a, b].length (ents [a, b]) := by
 exact World.ownsRow_lit (e := T) (size := 4) (base := base) w #[.string a.host, .int .i64 a.kind, .string a.key, .string a.val, .string b.host, .int .i64 b.kind, .string b.key, .string b.val] 2 hb (by unfold maxLen; omega) rfl
set_option maxHeartbeats 8000000 in
set_option maxRecDepth 100000 in
theorem hostSet_any (A : Option Addr) (cap : Nat) (L : List Ent) (a b : Ent) (w : World) (hE : Env w) (hR : Rd w 4 A L.length (ents L)) (_ : L.length ≤ cap) (hc : cap ≤ maxLen) (hnil : A = none → cap = 0) :
 Calls Tryz.prog 4 #[.slice A L.length cap, a.agg, b.agg] w fun e w' => e = .returned (.bool true) ∧ Below w.heap.size w w' := by
 obtain ⟨i0, hi, hz0, hz1, hz2⟩ := info_parts info_ent
 obtain ⟨wb, hwb⟩ : ∃ wb, w.heap.size = wb := ⟨_, rfl⟩
 obtain ⟨w1, hw1⟩ : ∃ w1, (w.alloc (.cells #[.string a.host, .int .i64 a.kind, .string a.key, .string a.val] 35)).alloc (.cells #[.string b.host, .int .i64 b.kind, .string b.key, .string b.val] 35) = w1 := ⟨_, rfl⟩
 have HB1 : Hid (Below w.heap.size w w1) := by show Below _ _ _; rw [← hw1]; exact ((Below.refl _ _).alloc (Nat.le_refl _) _).alloc (by simp) _
 have HCa : Hid (Cel w1 wb 0 a) := by
  show Cel _ _ _ _
  rw [← hw1, ← hwb]
  have h1 : Cel (w.alloc (.cells #[.string a.host, .int .i64 a.kind, .string a.key, .string a.val] 35)) w.heap.size 0 a := by
   refine ⟨by simp, ?_, ?_, ?_, ?_⟩ <;> rw [World.cell?_alloc_at _ _ _ _ rfl] <;> rfl
  exact h1.below ((Below.refl _ _).alloc (Nat.le_refl _) _)
 have HCb : Hid (Cel w1 (wb + 1) 0 b) := by
  show Cel _ _ _ _
  rw [← hw1, ← hwb]
  refine ⟨by simp, ?_, ?_, ?_, ?_⟩ <;> rw [World.cell?_alloc_at _ _ _ _ (by simp)] <;> rfl
 have HA := Lib.hid (fun W (hb : Below w1.heap.size w1 W) => awake14_any W ((hE.below HB1.out).below hb))
 have HR1 := Lib.hid (hR.below HB1.out)
 have HNil := Lib.hid hnil
 have HSet := Lib.hid (fun (h : L.length ≤ 60) W (hb : Below w1.heap.size w1 W) => set_any A cap L W (HR1.out.below hb) hnil (by omega))
 have HAb := Lib.hid (fun W => ahead_any a b W)
 have HBa := Lib.hid (fun W => ahead_any b a W)
 have HCm := Lib.hid (fun W => compare_any a b W)
 have HW : Hid ((if aheadB b a = true then 1 else if aheadB a b = true then -1 else 0) = cmpE a b) := want_cmp a b
 have hsl0 := setE_len L
 unfold Ent.agg at HAb HBa HCm
 clear hE hR hnil
 unfold Ent.agg
 rw [hwb]
 rw [hwb] at HB1
 have hc63 : cap ≤ 9223372036854775807 := by unfold maxLen at hc; omega
 by_cases h60 : 60 < L.length
 · have h60' : (60 : Int) < (L.length : Int) := by omega
   clear HR1 HNil HSet HAb HBa HCm HW
   go_enter Tryz.func4, Tryz.ntmps4
   go_wp2_with fail
   refine (HA.out _ (Below.refl _ _)).mono ?_
   rintro e w2 ⟨rfl, hb2⟩
   go_wp2_with fail
   go_ret
   rw [← hwb]
   exact ⟨rfl, below_step (by rw [hwb]; exact HB1.out) hb2⟩
 · have h60' : ¬ (60 : Int) < (L.length : Int) := by omega
   have HSet := Lib.hid (HSet.out (by omega))
   have hsl : (setE L).length ≤ 900000000 := by omega
   obtain ⟨-, a0, a1, a2, a3⟩ := HCa.out
   obtain ⟨-, b0, b1, b2, b3⟩ := HCb.out
   have hR2 : Rd (w1.alloc (.cells #[.string a.host, .int .i64 a.kind, .string a.key, .string a.val, .string b.host, .int .i64 b.kind, .string b.key, .string b.val] 35)) 4 A L.length (ents L) := HR1.out.alloc _
   have HO1 := Lib.hid (own_lit2 w1 35 w1.heap.size (Nat.le_refl _) a b)
   have HB2 := Lib.hid ((Below.refl w1.heap.size w1).alloc (Nat.le_refl _) (.cells #[.string a.host, .int .i64 a.kind, .string a.key, .string a.val, .string b.host, .int .i64 b.kind, .string b.key, .string b.val] 35))
   have HR2 := Lib.hid hR2
   clear hR2
   obtain ⟨N, hN⟩ : ∃ N, [a, b] ++ L = N := ⟨_, rfl⟩
   have hNl : N.length = 2 + L.length := by rw [← hN, List.length_append]; rfl
   have hNl2 : N.length ≤ 62 := by omega
   have HNe := Lib.hid hN
   clear hN
   go_enter Tryz.func4, Tryz.ntmps4
   go_wp2_with (at_builtin; refine app_srcL rfl _ _ 25 rfl w1 _ 35 i0 _ 4 56 Tryz.underlying25 hi hz0 hz1 hz2 rfl (by decide) (by decide) HO1.out HB2.out rfl A L.length cap (ents L) rfl HR2.out HNil.out (ents_c L) (by simp; omega) ?_; intro v3 w3 hown3 hb3; have hown4 : w3.ownsRow w1.heap.size 35 4 v3 N.length (ents N) := (by rw [hNl, ← HNe.out, ents_append]; exact hown3); obtain ⟨A3, c3, rfl, f1, f2, f3, -, -⟩ := own_rd_nil hown4; have HB3 := Lib.hid hb3; have HN3 := Lib.hid f3; clear hown3 hown4 hb3 f3 HO1 HB2 HR2 a0 a1 a2 a3 b0 b1 b2 b3)
   go_loopw [22] (fun vi wr => ∃ k : Nat, k ≤ N.length ∧ vi = .int .i64 k ∧ Hid (Below w1.heap.size w1 wr) ∧ Hid (Below w3.heap.size w3 wr)) (fun vi _ => N.length - (intOf vi).toNat)
   case atStart => exact ⟨0, Nat.zero_le _, rfl, HB3, Below.refl _ _⟩
   case round =>
    clear HB3
    obtain ⟨k, hk, rfl, HB, HB3⟩ := hrel
    by_cases hlt : k < N.length
    · obtain ⟨B2, O2, rfl, hab2, hadd2, y0, y1, y2, y3⟩ := (HN3.out.below HB3.out).ent hlt
      generalize N[k] = x at *
      have HBa := Lib.hid (HB.out.alloc HB.out.size (.cells #[.string x.host, .int .i64 x.kind, .string x.key, .string x.val] 35))
      have HB3a := Lib.hid (HB3.out.alloc HB3.out.size (.cells #[.string x.host, .int .i64 x.kind, .string x.key, .string x.val] 35))
      by_cases g1 : 100 < x.host.size
      · have g1' : (100 : Int) < (x.host.size : Int) := by omega
        go_wp2_with fail
        refine (HA.out _ HBa.out).mono ?_
        rintro e w4 ⟨rfl, hb4⟩
        go_wp2_with fail
        go_ret
        rw [← hwb]
        exact ⟨rfl, below_step (by rw [hwb]; exact HB1.out) (below_step HBa.out hb4)⟩
      · have g1' : ¬ (100 : Int) < (x.host.size : Int) := by omega
        by_cases g2 : 100 < x.key.size
        · have g2' : (100 : Int) < (x.key.size : Int) := by omega
          go_wp2_with fail
          refine (HA.out _ HBa.out).mono ?_
          rintro e w4 ⟨rfl, hb4⟩
          go_wp2_with fail
          go_ret
          rw [← hwb]
          exact ⟨rfl, below_step (by rw [hwb]; exact HB1.out) (below_step HBa.out hb4)⟩
        · have g2' : ¬ (100 : Int) < (x.key.size : Int) := by omega
          by_cases g3 : 100 < x.val.size
          · have g3' : (100 : Int) < (x.val.size : Int) := by omega
            go_wp2_with fail
            refine (HA.out _ HBa.out).mono ?_
            rintro e w4 ⟨rfl, hb4⟩
            go_wp2_with fail
            go_ret
            rw [← hwb]
            exact ⟨rfl, below_step (by rw [hwb]; exact HB1.out) (below_step HBa.out hb4)⟩
          · have g3' : ¬ (100 : Int) < (x.val.size : Int) := by omega
            go_wp2_with fail
            go_roundw
            case rel => exact ⟨k + 1, by omega, by go_num, HBa, HB3a⟩
            case measure => simp [intOf]; omega
    · have hkN : k = N.length := by omega
      obtain ⟨-, a0, a1, a2, a3⟩ := HCa.out.below HB.out
      obtain ⟨-, b0, b1, b2, b3⟩ := HCb.out.below HB.out
      clear HB3 HN3
      generalize wr = w4 at *
      have hq1 : wb < w4.heap.size := (HCa.out.below HB.out).1
      have hq2 : wb + 1 < w4.heap.size := (HCb.out.below HB.out).1
      go_upto_region 9 with fail
      go_region_held3 (fun W => W.cell? ⟨wb, 0, none⟩ = some (.string a.host) ∧ W.cell? ⟨wb, 1, none⟩ = some (.int .i64 a.kind) ∧ W.cell? ⟨wb, 2, none⟩ = some (.string a.key) ∧ W.cell? ⟨wb, 3, none⟩ = some (.string a.val) ∧ W.cell? ⟨wb + 1, 0, none⟩ = some (.string b.host) ∧ W.cell? ⟨wb + 1, 1, none⟩ = some (.int .i64 b.kind) ∧ W.cell? ⟨wb + 1, 2, none⟩ = some (.string b.key) ∧ W.cell? ⟨wb + 1, 3, none⟩ = some (.string b.val)) (first | exact a0 | exact a1 | exact a2 | exact a3 | exact b0 | exact b1 | exact b2 | exact b3 | go_keep) (fail)
      · obtain ⟨px, py, pb⟩ := cel_pair w4 36 a b
        have HB5 := Lib.hid (below_step HB.out pb)
        generalize ((w4.alloc (.cells #[.string a.host, .int .i64 a.kind, .string a.key, .string a.val] 36)).alloc (.cells #[.string b.host, .int .i64 b.kind, .string b.key, .string b.val] 36)).drew = w5 at *
        generalize w4.heap.size = q4 at *
        have HPX := Lib.hid px
        have HPY := Lib.hid py
        clear a0 a1 a2 a3 b0 b1 b2 b3 px py pb HB
        obtain ⟨-, x0, x1, x2, x3⟩ := HPX.out
        obtain ⟨-, y0, y1, y2, y3⟩ := HPY.out
        go_wp2_with fail
        refine (HAb.out w5).mono ?_
        rintro e w6 ⟨rfl, hb6⟩
        have HB6 := Lib.hid (below_step HB5.out hb6)
        have HPX6 := Lib.hid (HPX.out.below hb6)
        have HPY6 := Lib.hid (HPY.out.below hb6)
        clear x0 x1 x2 x3 y0 y1 y2 y3 hb6 HPX HPY HB5
        obtain ⟨-, x0, x1, x2, x3⟩ := HPX6.out
        obtain ⟨-, y0, y1, y2, y3⟩ := HPY6.out
        cases hab : aheadB a b with
        | false =>
          rw [hab] at HW
          go_wp2_with fail
          refine (HBa.out w6).mono ?_
          rintro e w7 ⟨rfl, hb7⟩
          have HB7 := Lib.hid (below_step HB6.out hb7)
          clear x0 x1 x2 x3 y0 y1 y2 y3 hb7 HPX6 HPY6 HB6
          cases hba : aheadB b a with
          | false =>
            rw [hba] at HW
            replace HW : Hid (cmpE a b = 0) := HW.out.symm
            go_wp2_with fail
            refine (HSet.out w7 HB7.out).mono ?_
            unfold EntsRd
            rintro e w8 ⟨A8, c8, rfl, f81, f82, f83, f84, hb8⟩
            have HB8 := Lib.hid (below_step HB7.out hb8)
            have HR8 := Lib.hid (hrefs_any A8 c8 (setE L) w8 f83 hsl)
            clear hb8 f83 f81 f82 f84 HSet HB7
            go_wp2_with fail
            refine HR8.out.mono ?_
            unfold EntsRd
            rintro e w9 ⟨A9, c9, rfl, f91, f92, f93, f94, hb9⟩
            have HB9 := Lib.hid (below_step HB8.out hb9)
            have HS9 := Lib.hid f93
            have HL9 := Lib.hid (hrefs_any A cap L w9 (HR1.out.below HB9.out) (by omega))
            clear hb9 f91 f92 f93 f94 HB8 HR8
            go_wp2_with fail
            refine HL9.out.mono ?_
            unfold EntsRd
            rintro e w10 ⟨A10, c10, rfl, g1, g2, g3, g4, hb10⟩
            have HB10 := Lib.hid (below_step HB9.out hb10)
            have HS10 := Lib.hid (HS9.out.below hb10)
            have HT10 := Lib.hid (rset_any A10 c10 L w10 g3 (by omega))
            clear hb10 g1 g2 g3 g4 HB9 HS9 HL9
            go_wp2_with fail
            refine HT10.out.mono ?_
            unfold EntsRd
            rintro e w11 ⟨A11, c11, rfl, g1, g2, g3, g4, hb11⟩
            have HB11 := Lib.hid (below_step HB10.out hb11)
            have HSM := Lib.hid (rsame_any A9 A11 c9 c11 (setE L) (setE L) w11 (HS10.out.below hb11) g3 (by omega))
            rw [decide_eq_true rfl] at HSM
            clear hb11 g1 g2 g3 g4 HB10 HS10 HT10
            go_wp2_with fail
            refine HSM.out.mono ?_
            rintro e w12 ⟨rfl, hb12⟩
            have HB12 := Lib.hid (below_step HB11.out hb12)
            clear hb12 HB11 HSM
            obtain ⟨-, a0, a1, a2, a3⟩ := HCa.out.below HB12.out
            obtain ⟨-, b0, b1, b2, b3⟩ := HCb.out.below HB12.out
            have HCP := Lib.hid (HCm.out w12)
            rw [HW.out] at HCP
            go_wp2_with fail
            refine HCP.out.mono ?_
            rintro e w13 ⟨rfl, q, os', hw13⟩
            have HB13 : Hid (Below w1.heap.size w1 w13) := by show Below _ _ _; rw [hw13]; exact below_step HB12.out (Lib.below_grow _ w12 (Nat.le_refl _) q os')
            clear hw13 a0 a1 a2 a3 b0 b1 b2 b3 HCP HB12 HCm
            go_wp2_with fail
            refine (HA.out _ HB13.out).mono ?_
            rintro e w14 ⟨rfl, hb14⟩
            go_wp2_with fail
            go_ret
            rw [← hwb]
            exact ⟨rfl, below_step (by rw [hwb]; exact HB1.out) (below_step HB13.out hb14)⟩
          | true =>
            rw [hba] at HW
            replace HW : Hid (cmpE a b = 1) := HW.out.symm
            go_wp2_with fail
            refine (HSet.out w7 HB7.out).mono ?_
            unfold EntsRd
            rintro e w8 ⟨A8, c8, rfl, f81, f82, f83, f84, hb8⟩
            have HB8 := Lib.hid (below_step HB7.out hb8)
            have HR8 := Lib.hid (hrefs_any A8 c8 (setE L) w8 f83 hsl)
            clear hb8 f83 f81 f82 f84 HSet HB7
            go_wp2_with fail
            refine HR8.out.mono ?_
            unfold EntsRd
            rintro e w9 ⟨A9, c9, rfl, f91, f92, f93, f94, hb9⟩
            have HB9 := Lib.hid (below_step HB8.out hb9)
            have HS9 := Lib.hid f93
            have HL9 := Lib.hid (hrefs_any A cap L w9 (HR1.out.below HB9.out) (by omega))
            clear hb9 f91 f92 f93 f94 HB8 HR8
            go_wp2_with fail
            refine HL9.out.mono ?_
            unfold EntsRd
            rintro e w10 ⟨A10, c10, rfl, g1, g2, g3, g4, hb10⟩
            have HB10 := Lib.hid (below_step HB9.out hb10)
            have HS10 := Lib.hid (HS9.out.below hb10)
            have HT10 := Lib.hid (rset_any A10 c10 L w10 g3 (by omega))
            clear hb10 g1 g2 g3 g4 HB9 HS9 HL9
            go_wp2_with fail
            refine HT10.out.mono ?_
            unfold EntsRd
            rintro e w11 ⟨A11, c11, rfl, g1, g2, g3, g4, hb11⟩
            have HB11 := Lib.hid (below_step HB10.out hb11)
            have HSM := Lib.hid (rsame_any A9 A11 c9 c11 (setE L) (setE L) w11 (HS10.out.below hb11) g3 (by omega))
            rw [decide_eq_true rfl] at HSM
            clear hb11 g1 g2 g3 g4 HB10 HS10 HT10
            go_wp2_with fail
            refine HSM.out.mono ?_
            rintro e w12 ⟨rfl, hb12⟩
            have HB12 := Lib.hid (below_step HB11.out hb12)
            clear hb12 HB11 HSM
            obtain ⟨-, a0, a1, a2, a3⟩ := HCa.out.below HB12.out
            obtain ⟨-, b0, b1, b2, b3⟩ := HCb.out.below HB12.out
            have HCP := Lib.hid (HCm.out w12)
            rw [HW.out] at HCP
            go_wp2_with fail
            refine HCP.out.mono ?_
            rintro e w13 ⟨rfl, q, os', hw13⟩
            have HB13 : Hid (Below w1.heap.size w1 w13) := by show Below _ _ _; rw [hw13]; exact below_step HB12.out (Lib.below_grow _ w12 (Nat.le_refl _) q os')
            clear hw13 a0 a1 a2 a3 b0 b1 b2 b3 HCP HB12 HCm
            go_wp2_with fail
            refine (HA.out _ HB13.out).mono ?_
            rintro e w14 ⟨rfl, hb14⟩
            go_wp2_with fail
            go_ret
            rw [← hwb]
            exact ⟨rfl, below_step (by rw [hwb]; exact HB1.out) (below_step HB13.out hb14)⟩
        | true =>
          rw [hab] at HW
          go_wp2_with fail
          refine (HBa.out w6).mono ?_
          rintro e w7 ⟨rfl, hb7⟩
          have HB7 := Lib.hid (below_step HB6.out hb7)
          clear x0 x1 x2 x3 y0 y1 y2 y3 hb7 HPX6 HPY6 HB6
          cases hba : aheadB b a with
          | false =>
            rw [hba] at HW
            replace HW : Hid (cmpE a b = -1) := HW.out.symm
            go_wp2_with fail
            refine (HSet.out w7 HB7.out).mono ?_
            unfold EntsRd
            rintro e w8 ⟨A8, c8, rfl, f81, f82, f83, f84, hb8⟩
            have HB8 := Lib.hid (below_step HB7.out hb8)
            have HR8 := Lib.hid (hrefs_any A8 c8 (setE L) w8 f83 hsl)
            clear hb8 f83 f81 f82 f84 HSet HB7
            go_wp2_with fail
            refine HR8.out.mono ?_
            unfold EntsRd
            rintro e w9 ⟨A9, c9, rfl, f91, f92, f93, f94, hb9⟩
            have HB9 := Lib.hid (below_step HB8.out hb9)
            have HS9 := Lib.hid f93
            have HL9 := Lib.hid (hrefs_any A cap L w9 (HR1.out.below HB9.out) (by omega))
            clear hb9 f91 f92 f93 f94 HB8 HR8
            go_wp2_with fail
            refine HL9.out.mono ?_
            unfold EntsRd
            rintro e w10 ⟨A10, c10, rfl, g1, g2, g3, g4, hb10⟩
            have HB10 := Lib.hid (below_step HB9.out hb10)
            have HS10 := Lib.hid (HS9.out.below hb10)
            have HT10 := Lib.hid (rset_any A10 c10 L w10 g3 (by omega))
            clear hb10 g1 g2 g3 g4 HB9 HS9 HL9
            go_wp2_with fail
            refine HT10.out.mono ?_
            unfold EntsRd
            rintro e w11 ⟨A11, c11, rfl, g1, g2, g3, g4, hb11⟩
            have HB11 := Lib.hid (below_step HB10.out hb11)
            have HSM := Lib.hid (rsame_any A9 A11 c9 c11 (setE L) (setE L) w11 (HS10.out.below hb11) g3 (by omega))
            rw [decide_eq_true rfl] at HSM
            clear hb11 g1 g2 g3 g4 HB10 HS10 HT10
            go_wp2_with fail
            refine HSM.out.mono ?_
            rintro e w12 ⟨rfl, hb12⟩
            have HB12 := Lib.hid (below_step HB11.out hb12)
            clear hb12 HB11 HSM
            obtain ⟨-, a0, a1, a2, a3⟩ := HCa.out.below HB12.out
            obtain ⟨-, b0, b1, b2, b3⟩ := HCb.out.below HB12.out
            have HCP := Lib.hid (HCm.out w12)
            rw [HW.out] at HCP
            go_wp2_with fail
            refine HCP.out.mono ?_
            rintro e w13 ⟨rfl, q, os', hw13⟩
            have HB13 : Hid (Below w1.heap.size w1 w13) := by show Below _ _ _; rw [hw13]; exact below_step HB12.out (Lib.below_grow _ w12 (Nat.le_refl _) q os')
            clear hw13 a0 a1 a2 a3 b0 b1 b2 b3 HCP HB12 HCm
            go_wp2_with fail
            refine (HA.out _ HB13.out).mono ?_
            rintro e w14 ⟨rfl, hb14⟩
            go_wp2_with fail
            go_ret
            rw [← hwb]
            exact ⟨rfl, below_step (by rw [hwb]; exact HB1.out) (below_step HB13.out hb14)⟩
          | true =>
            rw [hba] at HW
            replace HW : Hid (cmpE a b = 1) := HW.out.symm
            go_wp2_with fail
            refine (HSet.out w7 HB7.out).mono ?_
            unfold EntsRd
            rintro e w8 ⟨A8, c8, rfl, f81, f82, f83, f84, hb8⟩
            have HB8 := Lib.hid (below_step HB7.out hb8)
            have HR8 := Lib.hid (hrefs_any A8 c8 (setE L) w8 f83 hsl)
            clear hb8 f83 f81 f82 f84 HSet HB7
            go_wp2_with fail
            refine HR8.out.mono ?_
            unfold EntsRd
            rintro e w9 ⟨A9, c9, rfl, f91, f92, f93, f94, hb9⟩
            have HB9 := Lib.hid (below_step HB8.out hb9)
            have HS9 := Lib.hid f93
            have HL9 := Lib.hid (hrefs_any A cap L w9 (HR1.out.below HB9.out) (by omega))
            clear hb9 f91 f92 f93 f94 HB8 HR8
            go_wp2_with fail
            refine HL9.out.mono ?_
            unfold EntsRd
            rintro e w10 ⟨A10, c10, rfl, g1, g2, g3, g4, hb10⟩
            have HB10 := Lib.hid (below_step HB9.out hb10)
            have HS10 := Lib.hid (HS9.out.below hb10)
            have HT10 := Lib.hid (rset_any A10 c10 L w10 g3 (by omega))
            clear hb10 g1 g2 g3 g4 HB9 HS9 HL9
            go_wp2_with fail
            refine HT10.out.mono ?_
            unfold EntsRd
            rintro e w11 ⟨A11, c11, rfl, g1, g2, g3, g4, hb11⟩
            have HB11 := Lib.hid (below_step HB10.out hb11)
            have HSM := Lib.hid (rsame_any A9 A11 c9 c11 (setE L) (setE L) w11 (HS10.out.below hb11) g3 (by omega))
            rw [decide_eq_true rfl] at HSM
            clear hb11 g1 g2 g3 g4 HB10 HS10 HT10
            go_wp2_with fail
            refine HSM.out.mono ?_
            rintro e w12 ⟨rfl, hb12⟩
            have HB12 := Lib.hid (below_step HB11.out hb12)
            clear hb12 HB11 HSM
            obtain ⟨-, a0, a1, a2, a3⟩ := HCa.out.below HB12.out
            obtain ⟨-, b0, b1, b2, b3⟩ := HCb.out.below HB12.out
            have HCP := Lib.hid (HCm.out w12)
            rw [HW.out] at HCP
            go_wp2_with fail
            refine HCP.out.mono ?_
            rintro e w13 ⟨rfl, q, os', hw13⟩
            have HB13 : Hid (Below w1.heap.size w1 w13) := by show Below _ _ _; rw [hw13]; exact below_step HB12.out (Lib.below_grow _ w12 (Nat.le_refl _) q os')
            clear hw13 a0 a1 a2 a3 b0 b1 b2 b3 HCP HB12 HCm
            go_wp2_with fail
            refine (HA.out _ HB13.out).mono ?_
            rintro e w14 ⟨rfl, hb14⟩
            go_wp2_with fail
            go_ret
            rw [← hwb]
            exact ⟨rfl, below_step (by rw [hwb]; exact HB1.out) (below_step HB13.out hb14)⟩
      · obtain ⟨py, px, pb⟩ := cel_pair w4 36 b a
        have HB5 := Lib.hid (below_step HB.out pb)
        generalize ((w4.alloc (.cells #[.string b.host, .int .i64 b.kind, .string b.key, .string b.val] 36)).alloc (.cells #[.string a.host, .int .i64 a.kind, .string a.key, .string a.val] 36)).drew = w5 at *
        generalize w4.heap.size = q4 at *
        have HPX := Lib.hid px
        have HPY := Lib.hid py
        clear a0 a1 a2 a3 b0 b1 b2 b3 px py pb HB
        obtain ⟨-, x0, x1, x2, x3⟩ := HPX.out
        obtain ⟨-, y0, y1, y2, y3⟩ := HPY.out
        go_wp2_with fail
        refine (HAb.out w5).mono ?_
        rintro e w6 ⟨rfl, hb6⟩
        have HB6 := Lib.hid (below_step HB5.out hb6)
        have HPX6 := Lib.hid (HPX.out.below hb6)
        have HPY6 := Lib.hid (HPY.out.below hb6)
        clear x0 x1 x2 x3 y0 y1 y2 y3 hb6 HPX HPY HB5
        obtain ⟨-, x0, x1, x2, x3⟩ := HPX6.out
        obtain ⟨-, y0, y1, y2, y3⟩ := HPY6.out
        cases hab : aheadB a b with
        | false =>
          rw [hab] at HW
          go_wp2_with fail
          refine (HBa.out w6).mono ?_
          rintro e w7 ⟨rfl, hb7⟩
          have HB7 := Lib.hid (below_step HB6.out hb7)
          clear x0 x1 x2 x3 y0 y1 y2 y3 hb7 HPX6 HPY6 HB6
          cases hba : aheadB b a with
          | false =>
            rw [hba] at HW
            replace HW : Hid (cmpE a b = 0) := HW.out.symm
            go_wp2_with fail
            refine (HSet.out w7 HB7.out).mono ?_
            unfold EntsRd
            rintro e w8 ⟨A8, c8, rfl, f81, f82, f83, f84, hb8⟩
            have HB8 := Lib.hid (below_step HB7.out hb8)
            have HR8 := Lib.hid (hrefs_any A8 c8 (setE L) w8 f83 hsl)
            clear hb8 f83 f81 f82 f84 HSet HB7
            go_wp2_with fail
            refine HR8.out.mono ?_
            unfold EntsRd
            rintro e w9 ⟨A9, c9, rfl, f91, f92, f93, f94, hb9⟩
            have HB9 := Lib.hid (below_step HB8.out hb9)
            have HS9 := Lib.hid f93
            have HL9 := Lib.hid (hrefs_any A cap L w9 (HR1.out.below HB9.out) (by omega))
            clear hb9 f91 f92 f93 f94 HB8 HR8
            go_wp2_with fail
            refine HL9.out.mono ?_
            unfold EntsRd
            rintro e w10 ⟨A10, c10, rfl, g1, g2, g3, g4, hb10⟩
            have HB10 := Lib.hid (below_step HB9.out hb10)
            have HS10 := Lib.hid (HS9.out.below hb10)
            have HT10 := Lib.hid (rset_any A10 c10 L w10 g3 (by omega))
            clear hb10 g1 g2 g3 g4 HB9 HS9 HL9
            go_wp2_with fail
            refine HT10.out.mono ?_
            unfold EntsRd
            rintro e w11 ⟨A11, c11, rfl, g1, g2, g3, g4, hb11⟩
            have HB11 := Lib.hid (below_step HB10.out hb11)
            have HSM := Lib.hid (rsame_any A9 A11 c9 c11 (setE L) (setE L) w11 (HS10.out.below hb11) g3 (by omega))
            rw [decide_eq_true rfl] at HSM
            clear hb11 g1 g2 g3 g4 HB10 HS10 HT10
            go_wp2_with fail
            refine HSM.out.mono ?_
            rintro e w12 ⟨rfl, hb12⟩
            have HB12 := Lib.hid (below_step HB11.out hb12)
            clear hb12 HB11 HSM
            obtain ⟨-, a0, a1, a2, a3⟩ := HCa.out.below HB12.out
            obtain ⟨-, b0, b1, b2, b3⟩ := HCb.out.below HB12.out
            have HCP := Lib.hid (HCm.out w12)
            rw [HW.out] at HCP
            go_wp2_with fail
            refine HCP.out.mono ?_
            rintro e w13 ⟨rfl, q, os', hw13⟩
            have HB13 : Hid (Below w1.heap.size w1 w13) := by show Below _ _ _; rw [hw13]; exact below_step HB12.out (Lib.below_grow _ w12 (Nat.le_refl _) q os')
            clear hw13 a0 a1 a2 a3 b0 b1 b2 b3 HCP HB12 HCm
            go_wp2_with fail
            refine (HA.out _ HB13.out).mono ?_
            rintro e w14 ⟨rfl, hb14⟩
            go_wp2_with fail
            go_ret
            rw [← hwb]
            exact ⟨rfl, below_step (by rw [hwb]; exact HB1.out) (below_step HB13.out hb14)⟩
          | true =>
            rw [hba] at HW
            replace HW : Hid (cmpE a b = 1) := HW.out.symm
            go_wp2_with fail
            refine (HSet.out w7 HB7.out).mono ?_
            unfold EntsRd
            rintro e w8 ⟨A8, c8, rfl, f81, f82, f83, f84, hb8⟩
            have HB8 := Lib.hid (below_step HB7.out hb8)
            have HR8 := Lib.hid (hrefs_any A8 c8 (setE L) w8 f83 hsl)
            clear hb8 f83 f81 f82 f84 HSet HB7
            go_wp2_with fail
            refine HR8.out.mono ?_
            unfold EntsRd
            rintro e w9 ⟨A9, c9, rfl, f91, f92, f93, f94, hb9⟩
            have HB9 := Lib.hid (below_step HB8.out hb9)
            have HS9 := Lib.hid f93
            have HL9 := Lib.hid (hrefs_any A cap L w9 (HR1.out.below HB9.out) (by omega))
            clear hb9 f91 f92 f93 f94 HB8 HR8
            go_wp2_with fail
            refine HL9.out.mono ?_
            unfold EntsRd
            rintro e w10 ⟨A10, c10, rfl, g1, g2, g3, g4, hb10⟩
            have HB10 := Lib.hid (below_step HB9.out hb10)
            have HS10 := Lib.hid (HS9.out.below hb10)
            have HT10 := Lib.hid (rset_any A10 c10 L w10 g3 (by omega))
            clear hb10 g1 g2 g3 g4 HB9 HS9 HL9
            go_wp2_with fail
            refine HT10.out.mono ?_
            unfold EntsRd
            rintro e w11 ⟨A11, c11, rfl, g1, g2, g3, g4, hb11⟩
            have HB11 := Lib.hid (below_step HB10.out hb11)
            have HSM := Lib.hid (rsame_any A9 A11 c9 c11 (setE L) (setE L) w11 (HS10.out.below hb11) g3 (by omega))
            rw [decide_eq_true rfl] at HSM
            clear hb11 g1 g2 g3 g4 HB10 HS10 HT10
            go_wp2_with fail
            refine HSM.out.mono ?_
            rintro e w12 ⟨rfl, hb12⟩
            have HB12 := Lib.hid (below_step HB11.out hb12)
            clear hb12 HB11 HSM
            obtain ⟨-, a0, a1, a2, a3⟩ := HCa.out.below HB12.out
            obtain ⟨-, b0, b1, b2, b3⟩ := HCb.out.below HB12.out
            have HCP := Lib.hid (HCm.out w12)
            rw [HW.out] at HCP
            go_wp2_with fail
            refine HCP.out.mono ?_
            rintro e w13 ⟨rfl, q, os', hw13⟩
            have HB13 : Hid (Below w1.heap.size w1 w13) := by show Below _ _ _; rw [hw13]; exact below_step HB12.out (Lib.below_grow _ w12 (Nat.le_refl _) q os')
            clear hw13 a0 a1 a2 a3 b0 b1 b2 b3 HCP HB12 HCm
            go_wp2_with fail
            refine (HA.out _ HB13.out).mono ?_
            rintro e w14 ⟨rfl, hb14⟩
            go_wp2_with fail
            go_ret
            rw [← hwb]
            exact ⟨rfl, below_step (by rw [hwb]; exact HB1.out) (below_step HB13.out hb14)⟩
        | true =>
          rw [hab] at HW
          go_wp2_with fail
          refine (HBa.out w6).mono ?_
          rintro e w7 ⟨rfl, hb7⟩
          have HB7 := Lib.hid (below_step HB6.out hb7)
          clear x0 x1 x2 x3 y0 y1 y2 y3 hb7 HPX6 HPY6 HB6
          cases hba : aheadB b a with
          | false =>
            rw [hba] at HW
            replace HW : Hid (cmpE a b = -1) := HW.out.symm
            go_wp2_with fail
            refine (HSet.out w7 HB7.out).mono ?_
            unfold EntsRd
            rintro e w8 ⟨A8, c8, rfl, f81, f82, f83, f84, hb8⟩
            have HB8 := Lib.hid (below_step HB7.out hb8)
            have HR8 := Lib.hid (hrefs_any A8 c8 (setE L) w8 f83 hsl)
            clear hb8 f83 f81 f82 f84 HSet HB7
            go_wp2_with fail
            refine HR8.out.mono ?_
            unfold EntsRd
            rintro e w9 ⟨A9, c9, rfl, f91, f92, f93, f94, hb9⟩
            have HB9 := Lib.hid (below_step HB8.out hb9)
            have HS9 := Lib.hid f93
            have HL9 := Lib.hid (hrefs_any A cap L w9 (HR1.out.below HB9.out) (by omega))
            clear hb9 f91 f92 f93 f94 HB8 HR8
            go_wp2_with fail
            refine HL9.out.mono ?_
            unfold EntsRd
            rintro e w10 ⟨A10, c10, rfl, g1, g2, g3, g4, hb10⟩
            have HB10 := Lib.hid (below_step HB9.out hb10)
            have HS10 := Lib.hid (HS9.out.below hb10)
            have HT10 := Lib.hid (rset_any A10 c10 L w10 g3 (by omega))
            clear hb10 g1 g2 g3 g4 HB9 HS9 HL9
            go_wp2_with fail
            refine HT10.out.mono ?_
            unfold EntsRd
            rintro e w11 ⟨A11, c11, rfl, g1, g2, g3, g4, hb11⟩
            have HB11 := Lib.hid (below_step HB10.out hb11)
            have HSM := Lib.hid (rsame_any A9 A11 c9 c11 (setE L) (setE L) w11 (HS10.out.below hb11) g3 (by omega))
            rw [decide_eq_true rfl] at HSM
            clear hb11 g1 g2 g3 g4 HB10 HS10 HT10
            go_wp2_with fail
            refine HSM.out.mono ?_
            rintro e w12 ⟨rfl, hb12⟩
            have HB12 := Lib.hid (below_step HB11.out hb12)
            clear hb12 HB11 HSM
            obtain ⟨-, a0, a1, a2, a3⟩ := HCa.out.below HB12.out
            obtain ⟨-, b0, b1, b2, b3⟩ := HCb.out.below HB12.out
            have HCP := Lib.hid (HCm.out w12)
            rw [HW.out] at HCP
            go_wp2_with fail
            refine HCP.out.mono ?_
            rintro e w13 ⟨rfl, q, os', hw13⟩
            have HB13 : Hid (Below w1.heap.size w1 w13) := by show Below _ _ _; rw [hw13]; exact below_step HB12.out (Lib.below_grow _ w12 (Nat.le_refl _) q os')
            clear hw13 a0 a1 a2 a3 b0 b1 b2 b3 HCP HB12 HCm
            go_wp2_with fail
            refine (HA.out _ HB13.out).mono ?_
            rintro e w14 ⟨rfl, hb14⟩
            go_wp2_with fail
            go_ret
            rw [← hwb]
            exact ⟨rfl, below_step (by rw [hwb]; exact HB1.out) (below_step HB13.out hb14)⟩
          | true =>
            rw [hba] at HW
            replace HW : Hid (cmpE a b = 1) := HW.out.symm
            go_wp2_with fail
            refine (HSet.out w7 HB7.out).mono ?_
            unfold EntsRd
            rintro e w8 ⟨A8, c8, rfl, f81, f82, f83, f84, hb8⟩
            have HB8 := Lib.hid (below_step HB7.out hb8)
            have HR8 := Lib.hid (hrefs_any A8 c8 (setE L) w8 f83 hsl)
            clear hb8 f83 f81 f82 f84 HSet HB7
            go_wp2_with fail
            refine HR8.out.mono ?_
            unfold EntsRd
            rintro e w9 ⟨A9, c9, rfl, f91, f92, f93, f94, hb9⟩
            have HB9 := Lib.hid (below_step HB8.out hb9)
            have HS9 := Lib.hid f93
            have HL9 := Lib.hid (hrefs_any A cap L w9 (HR1.out.below HB9.out) (by omega))
            clear hb9 f91 f92 f93 f94 HB8 HR8
            go_wp2_with fail
            refine HL9.out.mono ?_
            unfold EntsRd
            rintro e w10 ⟨A10, c10, rfl, g1, g2, g3, g4, hb10⟩
            have HB10 := Lib.hid (below_step HB9.out hb10)
            have HS10 := Lib.hid (HS9.out.below hb10)
            have HT10 := Lib.hid (rset_any A10 c10 L w10 g3 (by omega))
            clear hb10 g1 g2 g3 g4 HB9 HS9 HL9
            go_wp2_with fail
            refine HT10.out.mono ?_
            unfold EntsRd
            rintro e w11 ⟨A11, c11, rfl, g1, g2, g3, g4, hb11⟩
            have HB11 := Lib.hid (below_step HB10.out hb11)
            have HSM := Lib.hid (rsame_any A9 A11 c9 c11 (setE L) (setE L) w11 (HS10.out.below hb11) g3 (by omega))
            rw [decide_eq_true rfl] at HSM
            clear hb11 g1 g2 g3 g4 HB10 HS10 HT10
            go_wp2_with fail
            refine HSM.out.mono ?_
            rintro e w12 ⟨rfl, hb12⟩
            have HB12 := Lib.hid (below_step HB11.out hb12)
            clear hb12 HB11 HSM
            obtain ⟨-, a0, a1, a2, a3⟩ := HCa.out.below HB12.out
            obtain ⟨-, b0, b1, b2, b3⟩ := HCb.out.below HB12.out
            have HCP := Lib.hid (HCm.out w12)
            rw [HW.out] at HCP
            go_wp2_with fail
            refine HCP.out.mono ?_
            rintro e w13 ⟨rfl, q, os', hw13⟩
            have HB13 : Hid (Below w1.heap.size w1 w13) := by show Below _ _ _; rw [hw13]; exact below_step HB12.out (Lib.below_grow _ w12 (Nat.le_refl _) q os')
            clear hw13 a0 a1 a2 a3 b0 b1 b2 b3 HCP HB12 HCm
            go_wp2_with fail
            refine (HA.out _ HB13.out).mono ?_
            rintro e w14 ⟨rfl, hb14⟩
            go_wp2_with fail
            go_ret
            rw [← hwb]
            exact ⟨rfl, below_step (by rw [hwb]; exact HB1.out) (below_step HB13.out hb14)⟩
end Go.Proofs.YtjdknhalcpkeaaaGreatDoor
