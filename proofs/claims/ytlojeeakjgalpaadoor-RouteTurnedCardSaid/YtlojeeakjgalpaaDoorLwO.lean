/- A walk: the law RouteOwn. -/
import Derived.Test.YtlojeeakjgalpaaDoorFac
import Derived.Test.YtlojeeakjgalpaaDoorOpn
namespace Go.Proofs.YtlojeeakjgalpaaDoor
open Go Go.RowKit Rte

theorem info_ent : (Tryd.prog.info? 29).map (fun i => (i.zero, i.size, i.bytes)) = some (some (.agg #[.string ⟨#[]⟩, .int .i64 0, .string ⟨#[]⟩, .string ⟨#[]⟩]), 4, 56) := by kernel_rfl
theorem own_push_ent {w : World} {base : Nat} {T : TypeId} {v : Value} {L : List Ent} {x : Ent} (h : w.ownsRow base T 4 v (L.length + 1) (ents L ++ [.string x.host, .int .i64 x.kind, .string x.key, .string x.val])) : w.ownsRow base T 4 v (L ++ [x]).length (ents (L ++ [x])) := by
  rw [ents_append, ents_one, List.length_append]; exact h
theorem permitF_any (A : Option Addr) (cap : Nat) (L : List Ent) (h : ByteArray) (fr dt : Int) (w : World) (hE : Env w) (hR : Rd w 4 A L.length (ents L)) (hcap : L.length ≤ cap) (hc : cap ≤ maxLen) (hL : L.length ≤ 100000000) (hs : ∀ e ∈ L, e.key.size ≤ 100000000 ∧ e.val.size ≤ 100000000) :
    Calls Tryd.prog 15 #[.slice A L.length cap, .string h, .int .i64 fr, .int .i64 dt] w fun e w' => e = .returned (.bool (permF L h fr dt)) ∧ Below w.heap.size w w' :=
  (permit_any A cap L h fr dt w hE hR hcap hc hL hs).mono fun _ _ ⟨_, hRO, he, hb⟩ => ⟨by rw [he, permR_eq hRO], hb⟩
theorem own_take {L : List Ent} {h : ByteArray} {k : Nat} (hk : k < L.length) : (L.take (k + 1)).filter (own h) = if own h L[k] = true then (L.take k).filter (own h) ++ [L[k]] else (L.take k).filter (own h) := by
  rw [List.take_succ_eq_append_getElem hk, List.filter_append]
  cases ho : own h L[k] <;> simp [ho]

set_option maxHeartbeats 4000000 in
set_option maxRecDepth 100000 in
theorem routeOwn_any (A : Option Addr) (cap : Nat) (L : List Ent) (h : ByteArray) (fr dt : Int) (w : World) (hE : Env w) (hR : Rd w 4 A L.length (ents L)) (hcap : L.length ≤ cap) (hcm : cap ≤ maxLen) (hh : h.size ≤ maxLen) :
    Calls Tryd.prog 4 #[.slice A L.length cap, .string h, .int .i64 fr, .int .i64 dt] w fun e w' => e = .returned (.bool true) ∧ Below w.heap.size w w' := by
  obtain ⟨i0, hi, hz0, hz1, hz2⟩ := info_parts info_ent
  have HF := Lib.hid (few_any A cap L w hR hcap hcm)
  have HCM := Lib.hid hcm
  unfold maxLen at hcm hh
  go_enter Tryd.func4, Tryd.ntmps4
  go_wp2_with fail
  refine HF.out.mono ?_
  rintro e w1 ⟨rfl, hb1⟩
  have hE1 := hE.below hb1
  have hR1 := hR.below hb1
  have HB1 := Lib.hid hb1
  have HFA : Hid (fewB L = true → L.length ≤ 60 ∧ ∀ e ∈ L, e.host.size ≤ 100 ∧ e.key.size ≤ 100 ∧ e.val.size ≤ 100) := fewB_all
  clear hE hR hb1 HF
  generalize fewB L = fb at *
  cases fb with
  | false =>
    go_wp2_with fail
    refine (awake15_any _ hE1).mono ?_
    rintro e w2 ⟨rfl, hb2⟩
    go_wp2_with fail
    go_ret
    exact ⟨rfl, below_step HB1.out hb2⟩
  | true =>
    by_cases h100 : 100 < h.size
    · have h100z : (100 : Int) < (h.size : Int) := by omega
      go_wp2_with fail
      refine (awake15_any _ hE1).mono ?_
      rintro e w2 ⟨rfl, hb2⟩
      go_wp2_with fail
      go_ret
      exact ⟨rfl, below_step HB1.out hb2⟩
    · have h100z : ¬ (100 : Int) < (h.size : Int) := by omega
      have HK := Lib.hid (HFA.out rfl).2
      have hl60 := (HFA.out rfl).1
      have HE1 := Lib.hid hE1
      have HR1 := Lib.hid hR1
      clear HFA hE1 hR1
      go_wp2
      go_loopw [9, 27] (fun v vi wr => ∃ k : Nat, k ≤ L.length ∧ vi = .int .i64 k ∧ wr.ownsRow w1.heap.size 29 4 v ((L.take k).filter (own h)).length (ents ((L.take k).filter (own h))) ∧ Below w1.heap.size w1 wr) (fun _ vi _ => L.length - (intOf vi).toNat)
      case atStart => exact ⟨0, Nat.zero_le _, rfl, World.ownsRow_nil _ _ _ _, Below.refl _ _⟩
      case round =>
        obtain ⟨k, hk, rfl, hown, hb⟩ := hrel
        by_cases hlt : k < L.length
        · obtain ⟨B, O, rfl, hab, hadd, x0, x1, x2, x3⟩ := (HR1.out.below hb).ent hlt
          have hst := own_take (h := h) hlt
          have hlen : ((L.take k).filter (own h)).length ≤ 60 := Nat.le_trans (List.length_filter_le _ _) (by rw [List.length_take]; omega)
          have HST := Lib.hid hst
          clear hst
          have hb2 := hb.alloc hb.size (.cells #[.string L[k].host, .int .i64 L[k].kind, .string L[k].key, .string L[k].val] 29)
          have hown2 := hown.alloc (.cells #[.string L[k].host, .int .i64 L[k].kind, .string L[k].key, .string L[k].val] 29)
          generalize (L.take k).filter (own h) = F at *
          generalize L[k] = x at *
          clear hown hb
          have HO : Hid (own h x = (decide (x.host = h) && (decide (x.kind = 4) || decide (x.kind = 5)))) := rfl
          by_cases hhx : x.host = h
          · have hh2 : x.host.toList = h.toList := by rw [hhx]
            by_cases hk45 : x.kind = 4 ∨ x.kind = 5
            · have HT : Hid ((L.take (k + 1)).filter (own h) = F ++ [x]) := by
                show _ = _
                rw [HST.out, if_pos]
                rw [HO.out]
                rcases hk45 with hk4 | hk5
                · simp [hhx, hk4]
                · simp [hhx, hk5]
              clear HST HO
              have hkk : ((x.kind == 4) = true) ∨ ((x.kind == 4) = false ∧ (x.kind == 5) = true) := by
                rcases hk45 with hk4 | hk5
                · exact .inl (by rw [hk4]; rfl)
                · exact .inr ⟨by rw [hk5]; rfl, by rw [hk5]; rfl⟩
              clear hk45 hhx
              rcases hkk with hk4 | ⟨hk4, hk5⟩
              all_goals
                go_wp2_with (at_builtin; refine app_new rfl _ _ 26 rfl w1 (wr.alloc (.cells #[.string x.host, .int .i64 x.kind, .string x.key, .string x.val] 29)) 29 i0 _ 4 56 Tryd.underlying26 hi hz0 hz1 hz2 rfl (by decide) (by decide) hown2 hb2 rfl 1 1 [.string x.host, .int .i64 x.kind, .string x.key, .string x.val] (by show Value.slice (some ⟨wr.heap.size + 1, 0, none⟩) 1 1 = _; simp) rfl (cells_one x) (by omega) ?_; intro v' w' hown' hb')
                go_roundw
                case rel => exact ⟨k + 1, by omega, by go_num, by rw [HT.out]; exact own_push_ent hown', hb'⟩
                case measure => simp [intOf]; omega
            · have HT : Hid ((L.take (k + 1)).filter (own h) = F) := by
                show _ = _
                rw [HST.out, if_neg]
                rw [HO.out]
                intro hc
                simp only [Bool.and_eq_true, Bool.or_eq_true, decide_eq_true_eq] at hc
                exact hk45 hc.2
              have hk4 : (x.kind == 4) = false := by simpa using fun e => hk45 (.inl e)
              have hk5 : (x.kind == 5) = false := by simpa using fun e => hk45 (.inr e)
              clear HST HO hk45 hhx
              go_wp2_with fail
              all_goals
                go_roundw
                case rel => exact ⟨k + 1, by omega, by go_num, by rw [HT.out]; exact hown2, hb2⟩
                case measure => simp [intOf]; omega
          · have hh2 : ¬ x.host.toList = h.toList := bytes_ne hhx
            have HT : Hid ((L.take (k + 1)).filter (own h) = F) := by
              show _ = _
              rw [HST.out, if_neg]
              rw [HO.out, decide_eq_false hhx, Bool.false_and]; decide
            clear HST HO
            go_wp2_with fail
            all_goals
              go_roundw
              case rel => exact ⟨k + 1, by omega, by go_num, by rw [HT.out]; exact hown2, hb2⟩
              case measure => simp [intOf]; omega
        · obtain rfl : k = L.length := by omega
          rw [List.take_of_length_le (Nat.le_refl _)] at hown
          have hlk := lk_own L h dt
          have hpm := permF_own L h fr dt
          have hsub : ∀ e ∈ L.filter (own h), e.host.size ≤ 100 ∧ e.key.size ≤ 100 ∧ e.val.size ≤ 100 := fun e he => HK.out e (List.mem_filter.1 he).1
          have hlen2 : (L.filter (own h)).length ≤ 60 := Nat.le_trans (List.length_filter_le _ _) hl60
          generalize L.filter (own h) = F at *
          obtain ⟨A2, c2, rfl, g1, g2, hR2⟩ := rd_own hown
          have hEr := HE1.out.below hb
          have hRr := HR1.out.below hb
          have HB2 : Hid (Below w.heap.size w wr) := below_step HB1.out hb
          have C1 := Lib.hid (show ∀ W, Env W → Rd W 4 A L.length (ents L) → _ from fun W hW hr => lookup_any A cap L h dt W hW hr hcap HCM.out fun e he => by have := (HK.out e he).2.1; omega)
          have C2 := Lib.hid (show ∀ W, Env W → Rd W 4 A2 F.length (ents F) → _ from fun W hW hr => lookup_any A2 c2 F h dt W hW hr g1 g2 fun e he => by have := (hsub e he).2.1; omega)
          have C3 := Lib.hid (show ∀ W, Env W → Rd W 4 A L.length (ents L) → _ from fun W hW hr => permitF_any A cap L h fr dt W hW hr hcap HCM.out (by omega) fun e he => by have := (HK.out e he).2; omega)
          have C4 := Lib.hid (show ∀ W, Env W → Rd W 4 A2 F.length (ents F) → _ from fun W hW hr => permitF_any A2 c2 F h fr dt W hW hr g1 g2 (by omega) fun e he => by have := (hsub e he).2; omega)
          rw [hlk] at C2
          rw [hpm] at C4
          unfold maxLen at g2
          clear hlk hpm hsub hown hb HE1 HR1 HB1 HK
          generalize (lk L h dt).2 = s at *
          generalize decide (0 ≤ (lk L h dt).1) = ok at *
          generalize permF L h fr dt = pf at *
          go_wp2_with fail
          refine (C1.out _ hEr hRr).mono ?_
          rintro e w3 ⟨rfl, hb3⟩
          have hE3 := hEr.below hb3
          have hR3 := hRr.below hb3
          have hS3 := hR2.below hb3
          have HB3 : Hid (Below w.heap.size w w3) := below_step HB2.out hb3
          clear hEr hRr hR2 hb3 C1 HB2
          go_wp2_with fail
          refine (C2.out _ hE3 hS3).mono ?_
          rintro e w4 ⟨rfl, hb4⟩
          have hE4 := hE3.below hb4
          have hR4 := hR3.below hb4
          have hS4 := hS3.below hb4
          have HB4 : Hid (Below w.heap.size w w4) := below_step HB3.out hb4
          clear hE3 hR3 hS3 hb4 C2 HB3
          have hbb : (s.toList == s.toList) = true := beq_self_eq_true _
          go_wp2_with fail
          refine (C3.out _ hE4 hR4).mono ?_
          rintro e w5 ⟨rfl, hb5⟩
          have hE5 := hE4.below hb5
          have hS5 := hS4.below hb5
          have HB5 : Hid (Below w.heap.size w w5) := below_step HB4.out hb5
          clear hE4 hR4 hS4 hb5 C3 HB4
          go_wp2_with fail
          refine (C4.out _ hE5 hS5).mono ?_
          rintro e w6 ⟨rfl, hb6⟩
          have hE6 := hE5.below hb6
          have HB6 : Hid (Below w.heap.size w w6) := below_step HB5.out hb6
          clear hE5 hS5 hb6 C4 HB5
          go_wp2_with fail
          refine (awake15_any _ hE6).mono ?_
          rintro e w7 ⟨rfl, hb7⟩
          have HB7 : Hid (Below w.heap.size w w7) := below_step HB6.out hb7
          clear hb7 HB6
          go_wp2_with fail
          go_ret
          exact ⟨by first | rfl | simp, HB7.out⟩
end Go.Proofs.YtlojeeakjgalpaaDoor
