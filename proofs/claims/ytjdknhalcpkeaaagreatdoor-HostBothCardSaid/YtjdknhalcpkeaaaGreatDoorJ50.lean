/- The law HostBoth. -/
import Derived.Test.YtjdknhalcpkeaaaGreatDoorJ43
import Derived.Test.YtjdknhalcpkeaaaGreatDoorJ44
import Derived.Test.YtjdknhalcpkeaaaGreatDoorJ34
namespace Hst
open Go Go.Lib Rte Sch Tre
def backB (S : List (List ByteArray)) (x y : Ent) : Bool := decide (y.kind = 1) && decide (y.key = x.key) && decide (y.val = addrU S x.host) && decide (addrU S y.host = x.val)
theorem both_facts {L : List Line} (hr : rightB L = true) (hf : checkB L = []) (x : Ent) (hx : x ∈ setE (allU (paths L))) :
 x.host ∈ kw (paths L) [wHosts] ∧ kw (paths L) [wHosts, x.host, wIp] = [addrU (paths L) x.host] ∧ (x.kind = 1 → (setE (allU (paths L))).any (backB (paths L) x) = true) := by
 rw [mem_set] at hx
 have h1 := (mem_all.1 hx).1
 obtain ⟨ip, h2, h3⟩ := (fine_of hr hf).hostIp h1
 refine ⟨h1, by rw [h3]; exact h2, fun hk => ?_⟩
 obtain ⟨y, hy, g1, g2, g3, g4⟩ := both_ways hx hk
 rw [List.any_eq_true]
 exact ⟨y, mem_set.2 hy, by unfold backB; simp [g1, g2, g3, g4]⟩
theorem any_succ {α : Type} (p : α → Bool) {l : List α} {k : Nat} (hk : k < l.length) : (l.take (k + 1)).any p = ((l.take k).any p || p l[k]) := by
 rw [List.take_succ_eq_append_getElem hk, List.any_append]; simp
end Hst
namespace Go.Proofs.YtjdknhalcpkeaaaGreatDoor
open Go Go.RowKit Go.Sort Rte Sch Tre Hst
theorem strs_own1 {w : World} {a : ByteArray} {e : Ending} {w' : World} (h : StrsOwn w [a] e w') :
 ∃ B O c, e = .returned (.slice (some ⟨B, O, none⟩) 1 c) ∧ 1 ≤ c ∧ B < w'.heap.size ∧ w'.cell? ⟨B, O, none⟩ = some (.string a) ∧ Below w.heap.size w w' := by
 obtain ⟨⟨v, rfl, hv⟩, hb⟩ := h
 obtain ⟨A, c, rfl, g1, -, g3, -, -⟩ := own_rd_nil hv
 obtain ⟨B, O, rfl, hab, -, hx⟩ := Rd.strAt g3 (i := 0) (by simp)
 exact ⟨B, O, c, rfl, by simpa using g1, hab, hx, hb⟩
theorem Cel.zero {w : World} {B : Nat} {x : Ent} (h : Cel w B 0 x) :
 B < w.heap.size ∧ w.cell? ⟨B, 0, none⟩ = some (.string x.host) ∧ w.cell? ⟨B, 1, none⟩ = some (.int .i64 x.kind) ∧ w.cell? ⟨B, 2, none⟩ = some (.string x.key) ∧ w.cell? ⟨B, 3, none⟩ = some (.string x.val) := h
set_option maxHeartbeats 8000000 in
set_option maxRecDepth 100000 in
theorem hostBoth_any (A : Option Addr) (cap : Nat) (L : List Line) (w : World) (hE : Env w) (hR : Rd w 3 A L.length (lines L)) (hcap : L.length ≤ cap) (hc : cap ≤ maxLen) :
 Calls Tryz.prog 5 #[.slice A L.length cap] w fun e w' => e = .returned (.bool true) ∧ Below w.heap.size w w' := by
 have HA := Lib.hid (fun W (hb : Below w.heap.size w W) => awake14_any W (hE.below hb))
 have HSm := Lib.hid (small_lines A cap L w hR hcap hc)
 have HRi := Lib.hid (fun W (hb : Below w.heap.size w W) => refRight_lines A cap L W (hR.below hb) hcap hc)
 rw [right_ref] at HRi
 have HCm := Lib.hid (fun W (hb : Below w.heap.size w W) => compile_any A cap L W (hE.below hb) (hR.below hb) hcap hc)
 have HK := Lib.hid (fun (hr : rightB L = true) => refK A cap L w hR hcap hc hr)
 clear hE hR
 cases hs : smallB L with
 | false =>
   rw [hs] at HSm
   clear hs HRi HCm HK
   go_enter Tryz.func5, Tryz.ntmps5
   go_wp2_with fail
   refine HSm.out.mono ?_
   rintro e w1 ⟨rfl, hb1⟩
   go_wp2_with fail
   refine (HA.out _ hb1).mono ?_
   rintro e w2 ⟨rfl, hb2⟩
   go_wp2_with fail
   go_ret
   exact ⟨rfl, below_step hb1 hb2⟩
 | true =>
   rw [hs] at HSm
   clear hs
   by_cases h60 : 60 < L.length
   · have h60' : (60 : Int) < (L.length : Int) := by omega
     clear HRi HCm HK
     go_enter Tryz.func5, Tryz.ntmps5
     go_wp2_with fail
     refine HSm.out.mono ?_
     rintro e w1 ⟨rfl, hb1⟩
     go_wp2_with fail
     refine (HA.out _ hb1).mono ?_
     rintro e w2 ⟨rfl, hb2⟩
     go_wp2_with fail
     go_ret
     exact ⟨rfl, below_step hb1 hb2⟩
   · have h60' : ¬ (60 : Int) < (L.length : Int) := by omega
     have h60'' : (L.length : Int) ≤ 60 := by omega
     cases hr : rightB L with
     | false =>
       rw [hr] at HRi
       clear HCm HK hr
       go_enter Tryz.func5, Tryz.ntmps5
       go_wp2_with fail
       refine HSm.out.mono ?_
       rintro e w1 ⟨rfl, hb1⟩
       go_wp2_with fail
       refine (HRi.out w1 hb1).mono ?_
       rintro e w2 ⟨rfl, hb2⟩
       go_wp2_with fail
       refine (HA.out _ (below_step hb1 hb2)).mono ?_
       rintro e w3 ⟨rfl, hb3⟩
       go_wp2_with fail
       go_ret
       exact ⟨rfl, below_step (below_step hb1 hb2) hb3⟩
     | true =>
       rw [hr] at HRi
       have hN := HK.out hr
       have HU := Lib.hid hN.under
       have hk1 := hN.few [wHosts]
       have HFi := Lib.hid (fun (hf : checkB L = []) => both_facts hr hf)
       have HHr := Lib.hid hr
       have hsl := all_len_set hr
       clear hr hN HK
       go_enter Tryz.func5, Tryz.ntmps5
       go_wp2_with fail
       refine HSm.out.mono ?_
       rintro e w1 ⟨rfl, hb1⟩
       have HB1 := Lib.hid hb1
       clear hb1 HSm
       go_wp2_with fail
       refine (HRi.out w1 HB1.out).mono ?_
       rintro e w2 ⟨rfl, hb2⟩
       have HB2 := Lib.hid (below_step HB1.out hb2)
       clear hb2 HRi HB1
       go_wp2_with fail
       refine (HCm.out w2 HB2.out).mono ?_
       unfold CompileEnd
       rintro e w3 (⟨hr', rfl, hb3⟩ | ⟨-, hf, rfl, hb3⟩ | ⟨-, hf, A3, c3, rfl, g1, g2, g3, g4, hb3⟩)
       · rw [HHr.out] at hr'; cases hr'
       · have HB3 := Lib.hid (below_step HB2.out hb3)
         clear hb3 HB2 HCm hf
         go_wp2_with fail
         refine (HA.out _ HB3.out).mono ?_
         rintro e w99 ⟨rfl, hb99⟩
         go_wp2_with fail
         go_ret
         exact ⟨rfl, below_step HB3.out hb99⟩
       · have HB3 := Lib.hid (below_step HB2.out hb3)
         have HG3 := Lib.hid g3
         clear hb3 HB2 HCm g3
         have HFa := Lib.hid (HFi.out hf)
         clear HFi hf HHr
         generalize setE (allU (paths L)) = M at *
         generalize paths L = S at *
         generalize hK : kw S [wHosts] = K at *
         have HKe := Lib.hid hK
         clear hK
         go_wp2_with fail
         refine (HU.out [wHosts] (by simp) (by simp) _ (HB3.out.alloc HB3.out.size _) _ (rd_words _ _ [wHosts] rfl)).mono ?_
         rw [HKe.out]
         unfold StrsOwn
         rintro e w4 ⟨⟨v4, rfl, hv4⟩, hb4⟩
         obtain ⟨A4, c4, rfl, k1, k2, k3, -, -⟩ := own_rd_nil hv4
         have HB4 := Lib.hid (below_step (HB3.out.alloc HB3.out.size _) hb4)
         have HM4 := Lib.hid ((HG3.out.alloc (.cells (sv [wHosts]).toArray 9)).below hb4)
         have HK4 := Lib.hid k3
         clear hb4 hv4 k3 HB3 HG3
         go_wp2_with fail
         go_loopw [52] (fun vi wr => ∃ k : Nat, k ≤ M.length ∧ vi = .int .i64 k ∧ Hid (Below w4.heap.size w4 wr)) (fun vi _ => M.length - (intOf vi).toNat)
         case atStart => exact ⟨0, Nat.zero_le _, rfl, Below.refl _ _⟩
         case round =>
          obtain ⟨k, hk, rfl, HB⟩ := hrel
          by_cases hlt : k < M.length
          · obtain ⟨B2, O2, rfl, hab2, hadd2, y0, y1, y2, y3⟩ := (HM4.out.below HB.out).ent hlt
            have HFx := Lib.hid (HFa.out M[k] (List.getElem_mem hlt))
            have HMl := Lib.hid (fun (q : Nat) (hq : q < M.length) => HFa.out M[q] (List.getElem_mem hq))
            generalize M[k] = x at *
            go_wp2_with fail
            clear y0 y1 y2 y3 hab2 hadd2
            have HBx := Lib.hid (HB.out.alloc HB.out.size (.cells #[.string x.host, .int .i64 x.kind, .string x.key, .string x.val] 35))
            have HCx0 : Hid (Cel (wr.alloc (.cells #[.string x.host, .int .i64 x.kind, .string x.key, .string x.val] 35)) wr.heap.size 0 x) := by
             refine ⟨by simp, ?_, ?_, ?_, ?_⟩ <;> rw [World.cell?_alloc_at _ _ _ _ rfl] <;> rfl
            obtain ⟨-, x0, x1, x2, x3⟩ := HCx0.out.zero
            generalize wr.alloc (.cells #[.string x.host, .int .i64 x.kind, .string x.key, .string x.val] 35) = w5 at *
            generalize wr.heap.size = bx at *
            refine wp_region_quiet_lit (by kernel_rfl) (by kernel_rfl) ?_
            repeat (go_big_quiet_step (fail))
            refine wpQuiet_nil ?_
            intro _ hw'
            obtain ⟨nq, hw''⟩ := hw'
            subst hw''
            have HB6 := Lib.hid (below_drewN HBx.out nq)
            have HC6 := Lib.hid (HCx0.out.below (below_drewN (Below.refl _ _) nq))
            generalize w5.drewN nq = w6 at *
            clear x0 x1 x2 x3 HCx0 HBx
            have HK6 := Lib.hid (HK4.out.below HB6.out)
            have HM6 := Lib.hid (HM4.out.below HB6.out)
            obtain ⟨b0, hb0⟩ : ∃ b0 : Bool, (x.kind != 1) = b0 := ⟨_, rfl⟩
            rw [hb0]
            have HB0 := Lib.hid hb0
            clear hb0
            go_wp2_with fail
            go_loop [8, 61] (fun v vi => ∃ j : Nat, j ≤ K.length ∧ vi = .int .i64 j ∧ ∃ b : Bool, v = .bool b ∧ Hid ((K.take j).any (fun h => decide (h = x.host)) = b)) (fun _ vi => K.length - (intOf vi).toNat)
            case atStart => exact ⟨0, Nat.zero_le _, rfl, false, rfl, rfl⟩
            case round =>
             obtain ⟨j, hj, rfl, b, rfl, HS⟩ := hrel
             obtain ⟨-, x0, x1, x2, x3⟩ := HC6.out.zero
             by_cases hjl : j < K.length
             · obtain ⟨B, O, rfl, hab, hadd, hx⟩ := HK6.out.strAt hjl
               have hst : (K.take (j + 1)).any (fun h => decide (h = x.host)) = (b || decide (K[j] = x.host)) := by rw [any_succ _ hjl, HS.out]
               generalize K[j] = h at *
               have HST := Lib.hid hst
               clear hst HS x1 x2 x3
               cases b with
               | true =>
                 have HSS : Hid ((K.take (j + 1)).any (fun h => decide (h = x.host)) = true) := by show _ = _; rw [HST.out]; rfl
                 clear HST
                 go_wp2
                 go_round
                 case rel => exact ⟨j + 1, by omega, by go_num, true, rfl, HSS⟩
                 case measure => simp [intOf]; omega
               | false =>
                 by_cases hh : h = x.host
                 · have q1 : (h.toList == x.host.toList) = true := by rw [hh]; exact beq_self_eq_true _
                   have HSS : Hid ((K.take (j + 1)).any (fun h => decide (h = x.host)) = true) := by show _ = _; rw [HST.out, decide_eq_true hh]; rfl
                   clear HST hh
                   go_wp2
                   go_round
                   case rel => exact ⟨j + 1, by omega, by go_num, true, rfl, HSS⟩
                   case measure => simp [intOf]; omega
                 · obtain ⟨q1, q2⟩ := ne_list hh
                   have HSS : Hid ((K.take (j + 1)).any (fun h => decide (h = x.host)) = false) := by show _ = _; rw [HST.out, decide_eq_false hh]; rfl
                   clear HST hh
                   go_wp2
                   go_round
                   case rel => exact ⟨j + 1, by omega, by go_num, false, rfl, HSS⟩
                   case measure => simp [intOf]; omega
             · have hje : j = K.length := by omega
               have hbt : b = true := by
                have h1 := HS.out
                rw [hje, List.take_length] at h1
                rw [← h1, List.any_eq_true]
                exact ⟨x.host, HFx.out.1, decide_eq_true rfl⟩
               subst hbt
               have HIp := Lib.hid HFx.out.2.1
               have HF3 := Lib.hid HFx.out.2.2
               clear HS HFx
               have HBk : Hid (∀ y, backB S x y = (decide (y.kind = 1) && decide (y.key = x.key) && decide (y.val = addrU S x.host) && decide (addrU S y.host = x.val))) := fun _ => rfl
               have HBw6 := Lib.hid (below_step HB4.out HB6.out)
               generalize addrU S x.host = a at *
               clear x1 x2 x3
               go_wp2_with fail
               refine (HU.out [wHosts, x.host, wIp] (by simp) (by simp) _ (HBw6.out.alloc HBw6.out.size _) _ (rd_words _ _ [wHosts, x.host, wIp] rfl)).mono ?_
               rw [HIp.out]
               intro e w7 hS7
               obtain ⟨B7, O7, c7, rfl, hc7, hl7, hx7, hb7⟩ := strs_own1 hS7
               have HB67 := Lib.hid (below_step ((Below.refl w6.heap.size w6).alloc (Nat.le_refl _) _) hb7)
               have HBw7 := Lib.hid (below_step HBw6.out HB67.out)
               have HM7 := Lib.hid (HM6.out.below HB67.out)
               have HC7 := Lib.hid (HC6.out.below HB67.out)
               have HOwn := Lib.hid (fun W (hb : Below w7.heap.size w7 W) => (hb.cell (p := ⟨B7, O7, none⟩) hl7).trans hx7)
               clear hS7 hb7 hx7 hl7 x0
               go_wp2_with fail
               go_loopw [9, 80] (fun v vi wr => ∃ q : Nat, q ≤ M.length ∧ vi = .int .i64 q ∧ ∃ b : Bool, v = .bool b ∧ Hid ((b0 || (M.take q).any (backB S x)) = b) ∧ Hid (Below w7.heap.size w7 wr)) (fun _ vi _ => M.length - (intOf vi).toNat)
               case atStart => exact ⟨0, Nat.zero_le _, rfl, b0, rfl, by show _ = _; rw [List.take_zero]; simp, Below.refl _ _⟩
               case round =>
                obtain ⟨q, hq, rfl, b, rfl, HS, HBq⟩ := hrel
                by_cases hql : q < M.length
                · obtain ⟨B3, O3, e3, hab3, hadd3, y0, y1, y2, y3⟩ := (HM7.out.below HBq.out).ent hql
                  obtain ⟨rfl, rfl⟩ : B2 = B3 ∧ O2 = O3 := by cases e3; exact ⟨rfl, rfl⟩
                  clear e3
                  have hst : (b0 || (M.take (q + 1)).any (backB S x)) = (b || backB S x M[q]) := by rw [any_succ _ hql, ← Bool.or_assoc, HS.out]
                  rw [HBk.out] at hst
                  have HYp := Lib.hid (HMl.out q hql).2.1
                  generalize M[q] = y at *
                  generalize addrU S y.host = ip at *
                  have HST := Lib.hid hst
                  clear hst HS
                  go_wp2_with fail
                  have HBwr := Lib.hid (below_step HBw7.out HBq.out)
                  have HBa := Lib.hid (HBwr.out.alloc HBwr.out.size (.cells #[.string y.host, .int .i64 y.kind, .string y.key, .string y.val] 35))
                  refine (HU.out [wHosts, y.host, wIp] (by simp) (by simp) _ (HBa.out.alloc HBa.out.size _) _ (rd_words2 _ _ _ [wHosts, y.host, wIp] rfl)).mono ?_
                  rw [HYp.out]
                  intro e w8 hS8
                  obtain ⟨B8, O8, c8, rfl, hc8, hl8, hx8, hb8⟩ := strs_own1 hS8
                  have HCy : Hid (Cel w8 wr.heap.size 0 y) := by
                   have h1 : Cel (wr.alloc (.cells #[.string y.host, .int .i64 y.kind, .string y.key, .string y.val] 35)) wr.heap.size 0 y := by
                    refine ⟨by simp, ?_, ?_, ?_, ?_⟩ <;> rw [World.cell?_alloc_at _ _ _ _ rfl] <;> rfl
                   exact (h1.below ((Below.refl _ _).alloc (Nat.le_refl _) _)).below hb8
                  have HB78 := Lib.hid (below_step (below_step (below_step HBq.out ((Below.refl wr.heap.size wr).alloc (Nat.le_refl _) _)) ((Below.refl _ _).alloc (Nat.le_refl _) _)) hb8)
                  obtain ⟨-, x0, x1, x2, x3⟩ := (HC7.out.below HB78.out).zero
                  obtain ⟨-, y0', y1', y2', y3'⟩ := HCy.out.zero
                  have hox := HOwn.out _ HB78.out
                  clear y0 y1 y2 y3 hab3 hadd3 hS8 hb8 HYp HBwr HBa HCy
                  generalize wr.heap.size = by8 at *
                  cases b with
                  | true =>
                    have HSS : Hid ((b0 || (M.take (q + 1)).any (backB S x)) = true) := by show _ = _; rw [HST.out]; rfl
                    clear HST 
                    go_wp2_with fail
                    refine wp_region_quiet_lit (by kernel_rfl) (by kernel_rfl) ?_
                    repeat (go_big_quiet_step (fail))
                    refine wpQuiet_nil ?_
                    intro _ hw'
                    obtain ⟨nq, hw''⟩ := hw'
                    subst hw''
                    have HB9 := Lib.hid (below_drewN HB78.out nq)
                    generalize w8.drewN nq = w9 at *
                    clear x0 x1 x2 x3 y0' y1' y2' y3' hox hx8
                    go_wp2_with fail
                    go_roundw
                    case rel => exact ⟨q + 1, by omega, by go_num, true, rfl, HSS, HB9⟩
                    case measure => simp [intOf]; omega
                  | false =>
                    by_cases h1 : y.kind = 1
                    · have q1 : (y.kind == 1) = true := beq_iff_eq.2 h1
                      by_cases h2 : y.key = x.key
                      · have q2 : (y.key.toList == x.key.toList) = true := by rw [h2]; exact beq_self_eq_true _
                        by_cases h3 : y.val = a
                        · have q3 : (y.val.toList == a.toList) = true := by rw [h3]; exact beq_self_eq_true _
                          by_cases h4 : ip = x.val
                          · have q4 : (ip.toList == x.val.toList) = true := by rw [h4]; exact beq_self_eq_true _
                            have HSS : Hid ((b0 || (M.take (q + 1)).any (backB S x)) = true) := by show _ = _; rw [HST.out]; rw [decide_eq_true h1, decide_eq_true h2, decide_eq_true h3, decide_eq_true h4]; rfl
                            clear HST h1 h2 h3 h4
                            go_wp2_with fail
                            refine wp_region_quiet_lit (by kernel_rfl) (by kernel_rfl) ?_
                            repeat (go_big_quiet_step (fail))
                            refine wpQuiet_nil ?_
                            intro _ hw'
                            obtain ⟨nq, hw''⟩ := hw'
                            subst hw''
                            have HB9 := Lib.hid (below_drewN HB78.out nq)
                            generalize w8.drewN nq = w9 at *
                            clear x0 x1 x2 x3 y0' y1' y2' y3' hox hx8
                            go_wp2_with fail
                            go_roundw
                            case rel => exact ⟨q + 1, by omega, by go_num, true, rfl, HSS, HB9⟩
                            case measure => simp [intOf]; omega
                          · obtain ⟨q4, q4'⟩ := ne_list h4
                            have HSS : Hid ((b0 || (M.take (q + 1)).any (backB S x)) = false) := by show _ = _; rw [HST.out]; rw [decide_eq_false h4, Bool.and_false]; rfl
                            clear HST h1 h2 h3 h4
                            go_wp2_with fail
                            refine wp_region_quiet_lit (by kernel_rfl) (by kernel_rfl) ?_
                            repeat (go_big_quiet_step (fail))
                            refine wpQuiet_nil ?_
                            intro _ hw'
                            obtain ⟨nq, hw''⟩ := hw'
                            subst hw''
                            have HB9 := Lib.hid (below_drewN HB78.out nq)
                            generalize w8.drewN nq = w9 at *
                            clear x0 x1 x2 x3 y0' y1' y2' y3' hox hx8
                            go_wp2_with fail
                            go_roundw
                            case rel => exact ⟨q + 1, by omega, by go_num, false, rfl, HSS, HB9⟩
                            case measure => simp [intOf]; omega
                        · obtain ⟨q3, q3'⟩ := ne_list h3
                          have HSS : Hid ((b0 || (M.take (q + 1)).any (backB S x)) = false) := by show _ = _; rw [HST.out]; rw [decide_eq_false h3, Bool.and_false, Bool.false_and]; rfl
                          clear HST h1 h2 h3
                          go_wp2_with fail
                          refine wp_region_quiet_lit (by kernel_rfl) (by kernel_rfl) ?_
                          repeat (go_big_quiet_step (fail))
                          refine wpQuiet_nil ?_
                          intro _ hw'
                          obtain ⟨nq, hw''⟩ := hw'
                          subst hw''
                          have HB9 := Lib.hid (below_drewN HB78.out nq)
                          generalize w8.drewN nq = w9 at *
                          clear x0 x1 x2 x3 y0' y1' y2' y3' hox hx8
                          go_wp2_with fail
                          go_roundw
                          case rel => exact ⟨q + 1, by omega, by go_num, false, rfl, HSS, HB9⟩
                          case measure => simp [intOf]; omega
                      · obtain ⟨q2, q2'⟩ := ne_list h2
                        have HSS : Hid ((b0 || (M.take (q + 1)).any (backB S x)) = false) := by show _ = _; rw [HST.out]; rw [decide_eq_false h2, Bool.and_false, Bool.false_and, Bool.false_and]; rfl
                        clear HST h1 h2
                        go_wp2_with fail
                        refine wp_region_quiet_lit (by kernel_rfl) (by kernel_rfl) ?_
                        repeat (go_big_quiet_step (fail))
                        refine wpQuiet_nil ?_
                        intro _ hw'
                        obtain ⟨nq, hw''⟩ := hw'
                        subst hw''
                        have HB9 := Lib.hid (below_drewN HB78.out nq)
                        generalize w8.drewN nq = w9 at *
                        clear x0 x1 x2 x3 y0' y1' y2' y3' hox hx8
                        go_wp2_with fail
                        go_roundw
                        case rel => exact ⟨q + 1, by omega, by go_num, false, rfl, HSS, HB9⟩
                        case measure => simp [intOf]; omega
                    · have q1 : (y.kind == 1) = false := beq_eq_false_iff_ne.2 h1
                      have HSS : Hid ((b0 || (M.take (q + 1)).any (backB S x)) = false) := by show _ = _; rw [HST.out]; rw [decide_eq_false h1, Bool.false_and, Bool.false_and, Bool.false_and]; rfl
                      clear HST h1
                      go_wp2_with fail
                      refine wp_region_quiet_lit (by kernel_rfl) (by kernel_rfl) ?_
                      repeat (go_big_quiet_step (fail))
                      refine wpQuiet_nil ?_
                      intro _ hw'
                      obtain ⟨nq, hw''⟩ := hw'
                      subst hw''
                      have HB9 := Lib.hid (below_drewN HB78.out nq)
                      generalize w8.drewN nq = w9 at *
                      clear x0 x1 x2 x3 y0' y1' y2' y3' hox hx8
                      go_wp2_with fail
                      go_roundw
                      case rel => exact ⟨q + 1, by omega, by go_num, false, rfl, HSS, HB9⟩
                      case measure => simp [intOf]; omega
                · have hqe : q = M.length := by omega
                  have hbt : b = true := by
                   have h1 := HS.out
                   rw [hqe, List.take_length] at h1
                   rw [← h1]
                   by_cases hx1 : x.kind = 1
                   · rw [HF3.out hx1, Bool.or_true]
                   · rw [← HB0.out, bne_iff_ne.2 hx1]; rfl
                  subst hbt
                  have HBE := Lib.hid (below_step (below_step HB6.out HB67.out) HBq.out)
                  clear HS
                  go_wp2_with fail
                  go_roundw
                  case rel => exact ⟨k + 1, by omega, by go_num, HBE⟩
                  case measure => simp [intOf]; omega
          · have HBE := Lib.hid (below_step HB4.out HB.out)
            clear HB HFa
            go_wp2_with fail
            refine (HA.out _ HBE.out).mono ?_
            rintro e w99 ⟨rfl, hb99⟩
            go_wp2_with fail
            go_ret
            exact ⟨rfl, below_step HBE.out hb99⟩
end Go.Proofs.YtjdknhalcpkeaaaGreatDoor
