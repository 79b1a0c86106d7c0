/- A walk: the library's text of digits with a fixed number of them behind the point. A walk: the library's text of nought with three digits behind the point. -/
import Derived.Maps.AppendAt
import Derived.Test.YtmhgacgneckboaaGreatDoorQg
namespace Fta
open Go
def bc (l : List UInt8) : List Value := l.map fun c => Value.int .u8 (c.toNat : Int)
theorem bc_len (l : List UInt8) : (bc l).length = l.length := List.length_map _
theorem bc_app (a b : List UInt8) : bc (a ++ b) = bc a ++ bc b := List.map_append
/-- Noughts. -/
def rep (k : Nat) : List UInt8 := List.replicate k 48
theorem rep_len (k : Nat) : (rep k).length = k := List.length_replicate
theorem rep_succ (k : Nat) : rep (k + 1) = rep k ++ [48] := by unfold rep; rw [List.replicate_succ']
/-- Digits with the point behind the P-th one. -/
def upL (ds : List UInt8) (P : Nat) : List UInt8 := ds.take (min ds.length P) ++ rep (P - min ds.length P) ++ [46] ++ (ds.drop P).take (min 3 (ds.length - P)) ++ rep (3 - min 3 (ds.length - P))
/-- Digits behind the point, behind Q noughts. -/
def lowL (ds : List UInt8) (Q : Nat) : List UInt8 := [48, 46] ++ rep Q ++ ds.take (min (3 - Q) ds.length) ++ rep (3 - Q - min (3 - Q) ds.length)
end Fta
namespace Go.Proofs.YtmhgacgneckboaaGreatDoor
open Go Go.RowKit Fta

/-- What is being written, beside the digits that are read. -/
structure Dst (w0 w : World) (v : Value) (l : List UInt8) (b : Nat) (ds : List UInt8) : Prop where
  own : w.ownsRow w0.heap.size 5 1 v l.length (bc l)
  bel : Below w0.heap.size w0 w
  dig : ∀ (i : Nat) (h : i < ds.length), w.cell? ⟨b, i, none⟩ = some (.int .u8 (ds[i].toNat : Int))
  ne : ds ≠ [] → v.ownBlock ≠ some b
  lt : ds ≠ [] → b < w.heap.size
theorem info_u8 : (Tryz.prog.info? 5).map (fun i => (i.zero, i.size, i.bytes)) = some (some (.int .u8 0), 1, 1) := by kernel_rfl
/-- An append of one byte. -/
theorem app_byte {ops : Array Oper} {rest : List Oper} {o : Oper} {a : Act} {Q : Exit → Act → World → Prop} (hgd : o.guard = none) (s x : Operand)
    (ho : o.op = .call { callee := .builtin .append, args := #[s, x], argTypes := #[70, 70] })
    (w0 wr : World) {v : Value} {l ds : List UInt8} {b : Nat} (hD : Dst w0 wr v l b ds) (hs : a.eval s = v)
    (c : UInt8) (z : Int) (hz : z = (c.toNat : Int)) (hx : a.eval x = .slice (some ⟨wr.heap.size, 0, none⟩) 1 1) (hN : l.length + 1 ≤ 1000000)
    (h : ∀ v' w', Dst w0 w' v' (l ++ [c]) b ds → wpList Tryz.prog ops Q rest (a.put o.dst v') w') :
    wpList Tryz.prog ops Q (o :: rest) a (wr.alloc (.cells #[.int .u8 z] 5)) := by
  subst hz
  obtain ⟨i, hi, hz0, hz1, hz2⟩ := info_parts info_u8
  have hba : Below wr.heap.size wr (wr.alloc (.cells #[.int .u8 (c.toNat : Int)] 5)) := (Below.refl _ _).alloc (Nat.le_refl _) _
  refine wpList_append_own_at _ hgd s x 70 ho w0.heap.size 5 i _ 1 1 Tryz.underlying70 hi hz0 hz1 hz2 rfl (by decide) v l.length (bc l) hs (own_below hD.own hba) ⟨wr.heap.size, 0, none⟩ 1 1 [.int .u8 (c.toNat : Int)] hx rfl ?_ ?_ (by unfold maxLen; omega) (by omega) (Nat.le_trans hD.bel.size (by simp)) ?_
  · intro j u hu
    rw [add_plain, Nat.zero_add, World.cell?_alloc_at _ _ _ _ rfl]
    simpa using hu
  · intro u hu
    rw [List.mem_singleton.1 hu]; rfl
  · intro v' w' hown' hg hnil hat
    refine h v' w' ⟨?_, ((hD.bel.alloc hD.bel.size _).grown hg (Nat.le_trans hD.bel.size (by simp)) fun q hq => (hD.own.lt q hq).1), fun i hi => ?_, ?_, fun hne => ?_⟩
    · rw [List.length_append, bc_app]; exact hown'
    · exact hg.cell ((hba.cell (Lib.lt_of_cell (hD.dig i hi))).trans (hD.dig i hi)) (fun e => hD.ne (fun h0 => by rw [h0] at hi; simp at hi) e.symm)
    · intro hd
      rcases hat with hat | hat
      · rw [hat]; exact hD.ne hd
      · rw [hat]
        intro e
        injection e with e
        simp at e
        have := hD.lt hd; omega
    · have h1 := hD.lt hne
      have h2 := hg.size
      simp at h2
      omega

set_option maxHeartbeats 8000000 in
set_option maxRecDepth 100000 in
theorem efg_upP (w0 w : World) (v : Value) (l ds : List UInt8) (b c P : Nat) (sh : Bool) (hD : Dst w0 w v l b ds) (hl : l.length ≤ 100) (hc : ds.length ≤ c) (hc2 : c ≤ 1000) (hP : 0 < P) (hP2 : P ≤ 1000) :
    Calls Tryz.prog 90 #[v, .bool false, .slice (some ⟨b, 0, none⟩) c c, .int .i64 P, .int .i64 (ds.length : Nat), .int .i64 3, .int .u8 102, .bool sh] w fun e w' => ∃ v', e = .returned v' ∧ Dst w0 w' v' (l ++ upL ds P) b ds := by
  have HD0 := Lib.hid hD
  have hP1 : (0 : Int) < (P : Int) := by omega
  obtain ⟨m, hm⟩ : ∃ m, min ds.length P = m := ⟨_, rfl⟩
  obtain ⟨z, hz⟩ : ∃ z, P - m = z := ⟨_, rfl⟩
  obtain ⟨g, hg⟩ : ∃ g, ds.length - P = g := ⟨_, rfl⟩
  obtain ⟨m2, hm2⟩ : ∃ m2, min 3 g = m2 := ⟨_, rfl⟩
  obtain ⟨t2, ht2⟩ : ∃ t2, 3 - m2 = t2 := ⟨_, rfl⟩
  have HU : Hid (l ++ ds.take m ++ rep z ++ [46] ++ (ds.drop P).take m2 ++ rep t2 = l ++ upL ds P) := by
    show _ = _
    unfold upL
    rw [hm, hz, hg, hm2, ht2]; simp only [List.append_assoc]
  have i1 : min (ds.length : Int) (P : Int) = (m : Int) := by omega
  have i2 : max (0 : Int) (-(P : Int)) = 0 := by omega
  have i7 : min (3 : Int) 0 = 0 := by decide
  have i3 : (P : Int) - (m : Int) = (z : Int) := by omega
  have i4 : max (0 : Int) ((ds.length : Int) - (P : Int)) = (g : Int) := by omega
  have i5 : min (3 : Int) (g : Int) = (m2 : Int) := by omega
  have i6 : max (0 : Int) (3 - (m2 : Int)) = (t2 : Int) := by omega
  have j1 : m ≤ ds.length ∧ m ≤ P ∧ z ≤ P ∧ m2 ≤ 3 ∧ t2 ≤ 3 := by omega
  have j2 : 0 < m2 → P + m2 ≤ ds.length := by omega
  obtain ⟨j11, j12, j13, j14, j15⟩ := j1
  have hmc : (m : Int) ≤ (c : Int) := by omega
  have hm0 : (0 : Int) ≤ (m : Int) := by omega
  clear hD hm hz hg hm2 ht2
  go_enter Tryz.func90, Tryz.ntmps90
  go_wp2_with fail
  have hll : l.length ≤ 101 := by omega
  obtain ⟨ll, hle⟩ : ∃ ll, l = ll := ⟨_, rfl⟩
  subst hle
  have HDd := HD0
  clear HD0
  go_loopw [0, 191] (fun v0 vi wr => ∃ k : Nat, k ≤ m ∧ vi = .int .i64 k ∧ Hid (Dst w0 wr v0 (l ++ ds.take k) b ds)) (fun _ vi _ => m - (intOf vi).toNat)
  case atStart => exact ⟨0, Nat.zero_le _, rfl, by show Dst _ _ _ _ _ _; simpa [rep] using HDd.out⟩
  case round =>
    clear HDd
    obtain ⟨k, hk, rfl, HD⟩ := hrel
    by_cases hlt : k < m
    · have hkj : k < ds.length := by omega
      have y0 := HD.out.dig k hkj
      have ytk : ds.take (k + 1) = ds.take k ++ [ds[k]] := List.take_succ_eq_append_getElem hkj
      have HT := Lib.hid ytk
      generalize ds[k] = ch at *
      clear ytk hkj
      have HS : Hid (l ++ ds.take (k + 1) = (l ++ ds.take k) ++ [ch]) := by
        show _ = _
        rw [HT.out]
        exact (List.append_assoc _ _ _).symm
      have HB : Hid ((l ++ ds.take k).length + 1 ≤ 1000000) := by
        show _ ≤ _
        simp only [List.length_append, List.length_take]; omega
      obtain ⟨X, hX⟩ : ∃ X, l ++ ds.take k = X := ⟨_, rfl⟩
      rw [hX] at HS HB HD
      clear hX
      go_wp2_with (at_builtin; (refine app_byte rfl _ _ rfl w0 wr HD.out rfl ch _ rfl rfl HB.out ?_; intro v' w' hd'))
      have HD2 : Hid (Dst w0 w' v' (l ++ ds.take (k + 1)) b ds) := by show Dst _ _ _ _ _ _; rw [HS.out]; exact hd'
      clear hd' HS HB HD HT y0
      go_roundw
      case rel => exact ⟨k + 1, by omega, by go_num, HD2⟩
      case measure => simp [intOf]; omega
    · have hkm : m = k := by omega
      subst hkm
      clear hlt hk
      have HDc := HD
      clear HD
      go_wp2_with fail
      go_loopw [0, 203] (fun v0 vi wr => ∃ k : Nat, k ≤ z ∧ vi = .int .i64 k ∧ Hid (Dst w0 wr v0 (l ++ ds.take m ++ rep k) b ds)) (fun _ vi _ => z - (intOf vi).toNat)
      case atStart => exact ⟨0, Nat.zero_le _, rfl, by show Dst _ _ _ _ _ _; simpa [rep] using HDc.out⟩
      case round =>
        clear HDc
        obtain ⟨k, hk, rfl, HD⟩ := hrel
        by_cases hlt : k < z
        · have HS : Hid (l ++ ds.take m ++ rep (k + 1) = (l ++ ds.take m ++ rep k) ++ [48]) := by
            show _ = _
            rw [rep_succ]
            exact (List.append_assoc _ _ _).symm
          have HB : Hid ((l ++ ds.take m ++ rep k).length + 1 ≤ 1000000) := by
            show _ ≤ _
            simp only [List.length_append, List.length_take, rep_len]; omega

          obtain ⟨X, hX⟩ : ∃ X, l ++ ds.take m ++ rep k = X := ⟨_, rfl⟩
          rw [hX] at HS HB HD
          clear hX
          go_wp2_with (at_builtin; (refine app_byte rfl _ _ rfl w0 wr HD.out rfl 48 _ rfl rfl HB.out ?_; intro v' w' hd'))
          have HD2 : Hid (Dst w0 w' v' (l ++ ds.take m ++ rep (k + 1)) b ds) := by show Dst _ _ _ _ _ _; rw [HS.out]; exact hd'
          clear hd' HS HB HD
          go_roundw
          case rel => exact ⟨k + 1, by omega, by go_num, HD2⟩
          case measure => simp [intOf]; omega
        · have hkm : z = k := by omega
          subst hkm
          clear hlt hk
          have HBd : Hid ((l ++ ds.take m ++ rep z).length + 1 ≤ 1000000) := by
            show _ ≤ _
            simp only [List.length_append, List.length_take, rep_len]; omega
          have HD3 := HD
          clear HD
          go_wp2_with (at_builtin; (refine app_byte rfl _ _ rfl w0 wr HD3.out rfl 46 _ rfl rfl HBd.out ?_; intro v2 w2 hd2))
          have HDa := Lib.hid hd2
          clear hd2 HD3 HBd
          go_loopw [0, 240] (fun v0 vi wr => v0 = v2 ∧ vi = .int .i64 0 ∧ wr = w2) (fun _ _ _ => 0)
          case atStart => exact ⟨rfl, rfl, rfl⟩
          case round =>
            obtain ⟨rfl, rfl, rfl⟩ := hrel
            go_wp2_with fail
            go_loopw [0, 247] (fun v0 vi wr => ∃ k : Nat, k ≤ m2 ∧ vi = .int .i64 k ∧ Hid (Dst w0 wr v0 (l ++ ds.take m ++ rep z ++ [46] ++ (ds.drop P).take k) b ds)) (fun _ vi _ => m2 - (intOf vi).toNat)
            case atStart => exact ⟨0, Nat.zero_le _, rfl, by show Dst _ _ _ _ _ _; simpa [rep] using HDa.out⟩
            case round =>
              clear HDa
              obtain ⟨k, hk, rfl, HD⟩ := hrel
              by_cases hlt : k < m2
              · have hkj : P + k < ds.length := by omega
                have y0 := HD.out.dig (P + k) hkj
                have ytk : (ds.drop P).take (k + 1) = (ds.drop P).take k ++ [ds[P + k]] := by
                  rw [List.take_succ_eq_append_getElem (by rw [List.length_drop]; omega), List.getElem_drop]
                have hcl : (P : Int) + (k : Int) < (c : Int) := by omega
                have hc0 : (0 : Int) ≤ (P : Int) + (k : Int) := by omega
                have hnt : ((P : Int) + (k : Int)).toNat = P + k := by omega
                have HT := Lib.hid ytk
                generalize ds[P + k] = ch at *
                clear ytk hkj
                have HS : Hid (l ++ ds.take m ++ rep z ++ [46] ++ (ds.drop P).take (k + 1) = (l ++ ds.take m ++ rep z ++ [46] ++ (ds.drop P).take k) ++ [ch]) := by
                  show _ = _
                  rw [HT.out]
                  exact (List.append_assoc _ _ _).symm
                have HB : Hid ((l ++ ds.take m ++ rep z ++ [46] ++ (ds.drop P).take k).length + 1 ≤ 1000000) := by
                  show _ ≤ _
                  simp only [List.length_append, List.length_take, List.length_drop, List.length_cons, List.length_nil, rep_len]; omega
                obtain ⟨X, hX⟩ : ∃ X, l ++ ds.take m ++ rep z ++ [46] ++ (ds.drop P).take k = X := ⟨_, rfl⟩
                rw [hX] at HS HB HD
                clear hX
                go_wp2_with (at_builtin; (refine app_byte rfl _ _ rfl w0 wr HD.out rfl ch _ rfl rfl HB.out ?_; intro v' w' hd'))
                have HD2 : Hid (Dst w0 w' v' (l ++ ds.take m ++ rep z ++ [46] ++ (ds.drop P).take (k + 1)) b ds) := by show Dst _ _ _ _ _ _; rw [HS.out]; exact hd'
                clear hd' HS HB HD HT y0
                go_roundw
                case rel => exact ⟨k + 1, by omega, by go_num, HD2⟩
                case measure => simp [intOf]; omega
              · have hkm : m2 = k := by omega
                subst hkm
                clear hlt hk
                have HDb := HD
                clear HD
                go_wp2_with fail
                go_loopw [0, 261] (fun v0 vi wr => ∃ k : Nat, k ≤ t2 ∧ vi = .int .i64 k ∧ Hid (Dst w0 wr v0 (l ++ ds.take m ++ rep z ++ [46] ++ (ds.drop P).take m2 ++ rep k) b ds)) (fun _ vi _ => t2 - (intOf vi).toNat)
                case atStart => exact ⟨0, Nat.zero_le _, rfl, by show Dst _ _ _ _ _ _; simpa [rep] using HDb.out⟩
                case round =>
                  clear HDb
                  obtain ⟨k, hk, rfl, HD⟩ := hrel
                  by_cases hlt : k < t2
                  · have HS : Hid (l ++ ds.take m ++ rep z ++ [46] ++ (ds.drop P).take m2 ++ rep (k + 1) = (l ++ ds.take m ++ rep z ++ [46] ++ (ds.drop P).take m2 ++ rep k) ++ [48]) := by
                      show _ = _
                      rw [rep_succ]
                      exact (List.append_assoc _ _ _).symm
                    have HB : Hid ((l ++ ds.take m ++ rep z ++ [46] ++ (ds.drop P).take m2 ++ rep k).length + 1 ≤ 1000000) := by
                      show _ ≤ _
                      simp only [List.length_append, List.length_take, List.length_drop, List.length_cons, List.length_nil, rep_len]; omega

                    obtain ⟨X, hX⟩ : ∃ X, l ++ ds.take m ++ rep z ++ [46] ++ (ds.drop P).take m2 ++ rep k = X := ⟨_, rfl⟩
                    rw [hX] at HS HB HD
                    clear hX
                    go_wp2_with (at_builtin; (refine app_byte rfl _ _ rfl w0 wr HD.out rfl 48 _ rfl rfl HB.out ?_; intro v' w' hd'))
                    have HD2 : Hid (Dst w0 w' v' (l ++ ds.take m ++ rep z ++ [46] ++ (ds.drop P).take m2 ++ rep (k + 1)) b ds) := by show Dst _ _ _ _ _ _; rw [HS.out]; exact hd'
                    clear hd' HS HB HD
                    go_roundw
                    case rel => exact ⟨k + 1, by omega, by go_num, HD2⟩
                    case measure => simp [intOf]; omega
                  · have hkm : t2 = k := by omega
                    subst hkm
                    clear hlt hk
                    have HF : Hid (Dst w0 wr u0 (l ++ upL ds P) b ds) := by
                      show Dst _ _ _ _ _ _
                      rw [← HU.out]; exact HD.out
                    clear HD
                    go_wp2_with fail
                    go_ret
                    exact ⟨_, rfl, HF.out⟩
set_option maxHeartbeats 8000000 in
set_option maxRecDepth 100000 in
theorem efg_upN (w0 w : World) (v : Value) (l ds : List UInt8) (b c P : Nat) (sh : Bool) (hD : Dst w0 w v l b ds) (hl : l.length ≤ 100) (hc : ds.length ≤ c) (hc2 : c ≤ 1000) (hP : 0 < P) (hP2 : P ≤ 1000) :
    Calls Tryz.prog 90 #[v, .bool true, .slice (some ⟨b, 0, none⟩) c c, .int .i64 P, .int .i64 (ds.length : Nat), .int .i64 3, .int .u8 102, .bool sh] w fun e w' => ∃ v', e = .returned v' ∧ Dst w0 w' v' (l ++ [45] ++ upL ds P) b ds := by
  have HD0 := Lib.hid hD
  have hP1 : (0 : Int) < (P : Int) := by omega
  obtain ⟨m, hm⟩ : ∃ m, min ds.length P = m := ⟨_, rfl⟩
  obtain ⟨z, hz⟩ : ∃ z, P - m = z := ⟨_, rfl⟩
  obtain ⟨g, hg⟩ : ∃ g, ds.length - P = g := ⟨_, rfl⟩
  obtain ⟨m2, hm2⟩ : ∃ m2, min 3 g = m2 := ⟨_, rfl⟩
  obtain ⟨t2, ht2⟩ : ∃ t2, 3 - m2 = t2 := ⟨_, rfl⟩
  have HU : Hid (l ++ [45] ++ ds.take m ++ rep z ++ [46] ++ (ds.drop P).take m2 ++ rep t2 = l ++ [45] ++ upL ds P) := by
    show _ = _
    unfold upL
    rw [hm, hz, hg, hm2, ht2]; simp only [List.append_assoc]
  have i1 : min (ds.length : Int) (P : Int) = (m : Int) := by omega
  have i2 : max (0 : Int) (-(P : Int)) = 0 := by omega
  have i7 : min (3 : Int) 0 = 0 := by decide
  have i3 : (P : Int) - (m : Int) = (z : Int) := by omega
  have i4 : max (0 : Int) ((ds.length : Int) - (P : Int)) = (g : Int) := by omega
  have i5 : min (3 : Int) (g : Int) = (m2 : Int) := by omega
  have i6 : max (0 : Int) (3 - (m2 : Int)) = (t2 : Int) := by omega
  have j1 : m ≤ ds.length ∧ m ≤ P ∧ z ≤ P ∧ m2 ≤ 3 ∧ t2 ≤ 3 := by omega
  have j2 : 0 < m2 → P + m2 ≤ ds.length := by omega
  obtain ⟨j11, j12, j13, j14, j15⟩ := j1
  have hmc : (m : Int) ≤ (c : Int) := by omega
  have hm0 : (0 : Int) ≤ (m : Int) := by omega
  clear hD hm hz hg hm2 ht2
  go_enter Tryz.func90, Tryz.ntmps90
  have HBz : Hid (l.length + 1 ≤ 1000000) := by show _ ≤ _; omega
  go_wp2_with (at_builtin; (refine app_byte rfl _ _ rfl w0 w HD0.out rfl 45 _ rfl rfl HBz.out ?_; intro v1 w1 hd1))
  have hll : (l ++ [45]).length ≤ 101 := by rw [List.length_append, List.length_singleton]; omega
  obtain ⟨ll, hle⟩ : ∃ ll, l ++ [(45 : UInt8)] = ll := ⟨_, rfl⟩
  have HLE := Lib.hid hle
  rw [hle] at hll hd1 HU
  have HDd := Lib.hid hd1
  clear hd1 HD0 HBz hle
  go_loopw [0, 191] (fun v0 vi wr => ∃ k : Nat, k ≤ m ∧ vi = .int .i64 k ∧ Hid (Dst w0 wr v0 (ll ++ ds.take k) b ds)) (fun _ vi _ => m - (intOf vi).toNat)
  case atStart => exact ⟨0, Nat.zero_le _, rfl, by show Dst _ _ _ _ _ _; simpa [rep] using HDd.out⟩
  case round =>
    clear HDd
    obtain ⟨k, hk, rfl, HD⟩ := hrel
    by_cases hlt : k < m
    · have hkj : k < ds.length := by omega
      have y0 := HD.out.dig k hkj
      have ytk : ds.take (k + 1) = ds.take k ++ [ds[k]] := List.take_succ_eq_append_getElem hkj
      have HT := Lib.hid ytk
      generalize ds[k] = ch at *
      clear ytk hkj
      have HS : Hid (ll ++ ds.take (k + 1) = (ll ++ ds.take k) ++ [ch]) := by
        show _ = _
        rw [HT.out]
        exact (List.append_assoc _ _ _).symm
      have HB : Hid ((ll ++ ds.take k).length + 1 ≤ 1000000) := by
        show _ ≤ _
        simp only [List.length_append, List.length_take]; omega
      obtain ⟨X, hX⟩ : ∃ X, ll ++ ds.take k = X := ⟨_, rfl⟩
      rw [hX] at HS HB HD
      clear hX
      go_wp2_with (at_builtin; (refine app_byte rfl _ _ rfl w0 wr HD.out rfl ch _ rfl rfl HB.out ?_; intro v' w' hd'))
      have HD2 : Hid (Dst w0 w' v' (ll ++ ds.take (k + 1)) b ds) := by show Dst _ _ _ _ _ _; rw [HS.out]; exact hd'
      clear hd' HS HB HD HT y0
      go_roundw
      case rel => exact ⟨k + 1, by omega, by go_num, HD2⟩
      case measure => simp [intOf]; omega
    · have hkm : m = k := by omega
      subst hkm
      clear hlt hk
      have HDc := HD
      clear HD
      go_wp2_with fail
      go_loopw [0, 203] (fun v0 vi wr => ∃ k : Nat, k ≤ z ∧ vi = .int .i64 k ∧ Hid (Dst w0 wr v0 (ll ++ ds.take m ++ rep k) b ds)) (fun _ vi _ => z - (intOf vi).toNat)
      case atStart => exact ⟨0, Nat.zero_le _, rfl, by show Dst _ _ _ _ _ _; simpa [rep] using HDc.out⟩
      case round =>
        clear HDc
        obtain ⟨k, hk, rfl, HD⟩ := hrel
        by_cases hlt : k < z
        · have HS : Hid (ll ++ ds.take m ++ rep (k + 1) = (ll ++ ds.take m ++ rep k) ++ [48]) := by
            show _ = _
            rw [rep_succ]
            exact (List.append_assoc _ _ _).symm
          have HB : Hid ((ll ++ ds.take m ++ rep k).length + 1 ≤ 1000000) := by
            show _ ≤ _
            simp only [List.length_append, List.length_take, rep_len]; omega

          obtain ⟨X, hX⟩ : ∃ X, ll ++ ds.take m ++ rep k = X := ⟨_, rfl⟩
          rw [hX] at HS HB HD
          clear hX
          go_wp2_with (at_builtin; (refine app_byte rfl _ _ rfl w0 wr HD.out rfl 48 _ rfl rfl HB.out ?_; intro v' w' hd'))
          have HD2 : Hid (Dst w0 w' v' (ll ++ ds.take m ++ rep (k + 1)) b ds) := by show Dst _ _ _ _ _ _; rw [HS.out]; exact hd'
          clear hd' HS HB HD
          go_roundw
          case rel => exact ⟨k + 1, by omega, by go_num, HD2⟩
          case measure => simp [intOf]; omega
        · have hkm : z = k := by omega
          subst hkm
          clear hlt hk
          have HBd : Hid ((ll ++ ds.take m ++ rep z).length + 1 ≤ 1000000) := by
            show _ ≤ _
            simp only [List.length_append, List.length_take, rep_len]; omega
          have HD3 := HD
          clear HD
          go_wp2_with (at_builtin; (refine app_byte rfl _ _ rfl w0 wr HD3.out rfl 46 _ rfl rfl HBd.out ?_; intro v2 w2 hd2))
          have HDa := Lib.hid hd2
          clear hd2 HD3 HBd
          go_loopw [0, 240] (fun v0 vi wr => v0 = v2 ∧ vi = .int .i64 0 ∧ wr = w2) (fun _ _ _ => 0)
          case atStart => exact ⟨rfl, rfl, rfl⟩
          case round =>
            obtain ⟨rfl, rfl, rfl⟩ := hrel
            go_wp2_with fail
            go_loopw [0, 247] (fun v0 vi wr => ∃ k : Nat, k ≤ m2 ∧ vi = .int .i64 k ∧ Hid (Dst w0 wr v0 (ll ++ ds.take m ++ rep z ++ [46] ++ (ds.drop P).take k) b ds)) (fun _ vi _ => m2 - (intOf vi).toNat)
            case atStart => exact ⟨0, Nat.zero_le _, rfl, by show Dst _ _ _ _ _ _; simpa [rep] using HDa.out⟩
            case round =>
              clear HDa
              obtain ⟨k, hk, rfl, HD⟩ := hrel
              by_cases hlt : k < m2
              · have hkj : P + k < ds.length := by omega
                have y0 := HD.out.dig (P + k) hkj
                have ytk : (ds.drop P).take (k + 1) = (ds.drop P).take k ++ [ds[P + k]] := by
                  rw [List.take_succ_eq_append_getElem (by rw [List.length_drop]; omega), List.getElem_drop]
                have hcl : (P : Int) + (k : Int) < (c : Int) := by omega
                have hc0 : (0 : Int) ≤ (P : Int) + (k : Int) := by omega
                have hnt : ((P : Int) + (k : Int)).toNat = P + k := by omega
                have HT := Lib.hid ytk
                generalize ds[P + k] = ch at *
                clear ytk hkj
                have HS : Hid (ll ++ ds.take m ++ rep z ++ [46] ++ (ds.drop P).take (k + 1) = (ll ++ ds.take m ++ rep z ++ [46] ++ (ds.drop P).take k) ++ [ch]) := by
                  show _ = _
                  rw [HT.out]
                  exact (List.append_assoc _ _ _).symm
                have HB : Hid ((ll ++ ds.take m ++ rep z ++ [46] ++ (ds.drop P).take k).length + 1 ≤ 1000000) := by
                  show _ ≤ _
                  simp only [List.length_append, List.length_take, List.length_drop, List.length_cons, List.length_nil, rep_len]; omega
                obtain ⟨X, hX⟩ : ∃ X, ll ++ ds.take m ++ rep z ++ [46] ++ (ds.drop P).take k = X := ⟨_, rfl⟩
                rw [hX] at HS HB HD
                clear hX
                go_wp2_with (at_builtin; (refine app_byte rfl _ _ rfl w0 wr HD.out rfl ch _ rfl rfl HB.out ?_; intro v' w' hd'))
                have HD2 : Hid (Dst w0 w' v' (ll ++ ds.take m ++ rep z ++ [46] ++ (ds.drop P).take (k + 1)) b ds) := by show Dst _ _ _ _ _ _; rw [HS.out]; exact hd'
                clear hd' HS HB HD HT y0
                go_roundw
                case rel => exact ⟨k + 1, by omega, by go_num, HD2⟩
                case measure => simp [intOf]; omega
              · have hkm : m2 = k := by omega
                subst hkm
                clear hlt hk
                have HDb := HD
                clear HD
                go_wp2_with fail
                go_loopw [0, 261] (fun v0 vi wr => ∃ k : Nat, k ≤ t2 ∧ vi = .int .i64 k ∧ Hid (Dst w0 wr v0 (ll ++ ds.take m ++ rep z ++ [46] ++ (ds.drop P).take m2 ++ rep k) b ds)) (fun _ vi _ => t2 - (intOf vi).toNat)
                case atStart => exact ⟨0, Nat.zero_le _, rfl, by show Dst _ _ _ _ _ _; simpa [rep] using HDb.out⟩
                case round =>
                  clear HDb
                  obtain ⟨k, hk, rfl, HD⟩ := hrel
                  by_cases hlt : k < t2
                  · have HS : Hid (ll ++ ds.take m ++ rep z ++ [46] ++ (ds.drop P).take m2 ++ rep (k + 1) = (ll ++ ds.take m ++ rep z ++ [46] ++ (ds.drop P).take m2 ++ rep k) ++ [48]) := by
                      show _ = _
                      rw [rep_succ]
                      exact (List.append_assoc _ _ _).symm
                    have HB : Hid ((ll ++ ds.take m ++ rep z ++ [46] ++ (ds.drop P).take m2 ++ rep k).length + 1 ≤ 1000000) := by
                      show _ ≤ _
                      simp only [List.length_append, List.length_take, List.length_drop, List.length_cons, List.length_nil, rep_len]; omega

                    obtain ⟨X, hX⟩ : ∃ X, ll ++ ds.take m ++ rep z ++ [46] ++ (ds.drop P).take m2 ++ rep k = X := ⟨_, rfl⟩
                    rw [hX] at HS HB HD
                    clear hX
                    go_wp2_with (at_builtin; (refine app_byte rfl _ _ rfl w0 wr HD.out rfl 48 _ rfl rfl HB.out ?_; intro v' w' hd'))
                    have HD2 : Hid (Dst w0 w' v' (ll ++ ds.take m ++ rep z ++ [46] ++ (ds.drop P).take m2 ++ rep (k + 1)) b ds) := by show Dst _ _ _ _ _ _; rw [HS.out]; exact hd'
                    clear hd' HS HB HD
                    go_roundw
                    case rel => exact ⟨k + 1, by omega, by go_num, HD2⟩
                    case measure => simp [intOf]; omega
                  · have hkm : t2 = k := by omega
                    subst hkm
                    clear hlt hk
                    have HF : Hid (Dst w0 wr u0 (l ++ [45] ++ upL ds P) b ds) := by
                      show Dst _ _ _ _ _ _
                      rw [HLE.out, ← HU.out]; exact HD.out
                    clear HD
                    go_wp2_with fail
                    go_ret
                    exact ⟨_, rfl, HF.out⟩
set_option maxHeartbeats 8000000 in
set_option maxRecDepth 100000 in
theorem efg_lowP (w0 w : World) (v : Value) (l ds : List UInt8) (b c : Nat) (sh : Bool) (hD : Dst w0 w v l b ds) (hl : l.length ≤ 100) (hc : ds.length ≤ c) (hc2 : c ≤ 1000) (Q : Nat) (D : Int) (hDQ : D = -(Q : Int)) (hQ : Q ≤ 3) :
    Calls Tryz.prog 90 #[v, .bool false, .slice (some ⟨b, 0, none⟩) c c, .int .i64 D, .int .i64 (ds.length : Nat), .int .i64 3, .int .u8 102, .bool sh] w fun e w' => ∃ v', e = .returned v' ∧ Dst w0 w' v' (l ++ lowL ds Q) b ds := by
  have HD0 := Lib.hid hD
  obtain ⟨h, hh⟩ : ∃ h, 3 - Q = h := ⟨_, rfl⟩
  obtain ⟨m2, hm2⟩ : ∃ m2, min h ds.length = m2 := ⟨_, rfl⟩
  obtain ⟨t2, ht2⟩ : ∃ t2, h - m2 = t2 := ⟨_, rfl⟩
  have HU : Hid (l ++ [48] ++ [46] ++ rep Q ++ ds.take m2 ++ rep t2 = l ++ lowL ds Q) := by
    show _ = _
    unfold lowL
    rw [hh, hm2, ht2]; simp only [List.append_assoc]; rfl
  have i0 : ¬ (0 : Int) < D := by omega
  have i1 : -D = (Q : Int) := by omega
  have i2 : max (0 : Int) (Q : Int) = (Q : Int) := by omega
  have i3 : min (3 : Int) (Q : Int) = (Q : Int) := by omega
  have i4 : D + (Q : Int) = 0 := by omega
  have i5 : 3 - (Q : Int) = (h : Int) := by omega
  have i6 : max (0 : Int) (ds.length : Int) = (ds.length : Int) := by omega
  have i7 : min (h : Int) (ds.length : Int) = (m2 : Int) := by omega
  have i8 : max (0 : Int) ((h : Int) - (m2 : Int)) = (t2 : Int) := by omega
  have j1 : m2 ≤ ds.length ∧ m2 ≤ 3 ∧ t2 ≤ 3 := by omega
  have hDb : -3 ≤ D ∧ D ≤ 0 := by omega
  obtain ⟨j11, j12, j13⟩ := j1
  obtain ⟨j14, j15⟩ := hDb
  clear hD hh hm2 ht2 hDQ
  go_enter Tryz.func90, Tryz.ntmps90
  have HBz : Hid (l.length + 1 ≤ 1000000) := by show _ ≤ _; omega
  have HBy : Hid ((l ++ [48]).length + 1 ≤ 1000000) := by show _ ≤ _; simp only [List.length_append, List.length_cons, List.length_nil]; omega
  go_wp2_with (at_builtin; first | (refine app_byte rfl _ _ rfl w0 w HD0.out rfl 48 _ rfl rfl HBz.out ?_; intro v2 w2 hd2) | (refine app_byte rfl _ _ rfl w0 w2 hd2 rfl 46 _ rfl rfl HBy.out ?_; intro v3 w3 hd3))
  have hll : l.length ≤ 101 := by omega
  obtain ⟨ll, hle⟩ : ∃ ll, l = ll := ⟨_, rfl⟩
  subst hle
  have HDc := Lib.hid hd3
  clear hd2 hd3 HD0 HBz HBy
  go_loopw [0, 240] (fun v0 vi wr => ∃ k : Nat, k ≤ Q ∧ vi = .int .i64 k ∧ Hid (Dst w0 wr v0 (l ++ [48] ++ [46] ++ rep k) b ds)) (fun _ vi _ => Q - (intOf vi).toNat)
  case atStart => exact ⟨0, Nat.zero_le _, rfl, by show Dst _ _ _ _ _ _; simpa [rep] using HDc.out⟩
  case round =>
    clear HDc
    obtain ⟨k, hk, rfl, HD⟩ := hrel
    by_cases hlt : k < Q
    · have HS : Hid (l ++ [48] ++ [46] ++ rep (k + 1) = (l ++ [48] ++ [46] ++ rep k) ++ [48]) := by
        show _ = _
        rw [rep_succ]
        exact (List.append_assoc _ _ _).symm
      have HB : Hid ((l ++ [48] ++ [46] ++ rep k).length + 1 ≤ 1000000) := by
        show _ ≤ _
        simp only [List.length_append, List.length_cons, List.length_nil, rep_len]; omega

      obtain ⟨X, hX⟩ : ∃ X, l ++ [48] ++ [46] ++ rep k = X := ⟨_, rfl⟩
      rw [hX] at HS HB HD
      clear hX
      go_wp2_with (at_builtin; (refine app_byte rfl _ _ rfl w0 wr HD.out rfl 48 _ rfl rfl HB.out ?_; intro v' w' hd'))
      have HD2 : Hid (Dst w0 w' v' (l ++ [48] ++ [46] ++ rep (k + 1)) b ds) := by show Dst _ _ _ _ _ _; rw [HS.out]; exact hd'
      clear hd' HS HB HD
      go_roundw
      case rel => exact ⟨k + 1, by omega, by go_num, HD2⟩
      case measure => simp [intOf]; omega
    · have hkm : Q = k := by omega
      subst hkm
      clear hlt hk
      have HDa := HD
      clear HD
      go_wp2_with fail
      go_loopw [0, 247] (fun v0 vi wr => ∃ k : Nat, k ≤ m2 ∧ vi = .int .i64 k ∧ Hid (Dst w0 wr v0 (l ++ [48] ++ [46] ++ rep Q ++ ds.take k) b ds)) (fun _ vi _ => m2 - (intOf vi).toNat)
      case atStart => exact ⟨0, Nat.zero_le _, rfl, by show Dst _ _ _ _ _ _; simpa [rep] using HDa.out⟩
      case round =>
        clear HDa
        obtain ⟨k, hk, rfl, HD⟩ := hrel
        by_cases hlt : k < m2
        · have hkj : k < ds.length := by omega
          have y0 := HD.out.dig k hkj
          have ytk : ds.take (k + 1) = ds.take k ++ [ds[k]] := List.take_succ_eq_append_getElem hkj
          have hcl : (k : Int) < (c : Int) := by omega
          have HT := Lib.hid ytk
          generalize ds[k] = ch at *
          clear ytk hkj
          have HS : Hid (l ++ [48] ++ [46] ++ rep Q ++ ds.take (k + 1) = (l ++ [48] ++ [46] ++ rep Q ++ ds.take k) ++ [ch]) := by
            show _ = _
            rw [HT.out]
            exact (List.append_assoc _ _ _).symm
          have HB : Hid ((l ++ [48] ++ [46] ++ rep Q ++ ds.take k).length + 1 ≤ 1000000) := by
            show _ ≤ _
            simp only [List.length_append, List.length_take, List.length_cons, List.length_nil, rep_len]; omega
          obtain ⟨X, hX⟩ : ∃ X, l ++ [48] ++ [46] ++ rep Q ++ ds.take k = X := ⟨_, rfl⟩
          rw [hX] at HS HB HD
          clear hX
          go_wp2_with (at_builtin; (refine app_byte rfl _ _ rfl w0 wr HD.out rfl ch _ rfl rfl HB.out ?_; intro v' w' hd'))
          have HD2 : Hid (Dst w0 w' v' (l ++ [48] ++ [46] ++ rep Q ++ ds.take (k + 1)) b ds) := by show Dst _ _ _ _ _ _; rw [HS.out]; exact hd'
          clear hd' HS HB HD HT y0
          go_roundw
          case rel => exact ⟨k + 1, by omega, by go_num, HD2⟩
          case measure => simp [intOf]; omega
        · have hkm : m2 = k := by omega
          subst hkm
          clear hlt hk
          have HDb := HD
          clear HD
          go_wp2_with fail
          go_loopw [0, 261] (fun v0 vi wr => ∃ k : Nat, k ≤ t2 ∧ vi = .int .i64 k ∧ Hid (Dst w0 wr v0 (l ++ [48] ++ [46] ++ rep Q ++ ds.take m2 ++ rep k) b ds)) (fun _ vi _ => t2 - (intOf vi).toNat)
          case atStart => exact ⟨0, Nat.zero_le _, rfl, by show Dst _ _ _ _ _ _; simpa [rep] using HDb.out⟩
          case round =>
            clear HDb
            obtain ⟨k, hk, rfl, HD⟩ := hrel
            by_cases hlt : k < t2
            · have HS : Hid (l ++ [48] ++ [46] ++ rep Q ++ ds.take m2 ++ rep (k + 1) = (l ++ [48] ++ [46] ++ rep Q ++ ds.take m2 ++ rep k) ++ [48]) := by
                show _ = _
                rw [rep_succ]
                exact (List.append_assoc _ _ _).symm
              have HB : Hid ((l ++ [48] ++ [46] ++ rep Q ++ ds.take m2 ++ rep k).length + 1 ≤ 1000000) := by
                show _ ≤ _
                simp only [List.length_append, List.length_take, List.length_cons, List.length_nil, rep_len]; omega

              obtain ⟨X, hX⟩ : ∃ X, l ++ [48] ++ [46] ++ rep Q ++ ds.take m2 ++ rep k = X := ⟨_, rfl⟩
              rw [hX] at HS HB HD
              clear hX
              go_wp2_with (at_builtin; (refine app_byte rfl _ _ rfl w0 wr HD.out rfl 48 _ rfl rfl HB.out ?_; intro v' w' hd'))
              have HD2 : Hid (Dst w0 w' v' (l ++ [48] ++ [46] ++ rep Q ++ ds.take m2 ++ rep (k + 1)) b ds) := by show Dst _ _ _ _ _ _; rw [HS.out]; exact hd'
              clear hd' HS HB HD
              go_roundw
              case rel => exact ⟨k + 1, by omega, by go_num, HD2⟩
              case measure => simp [intOf]; omega
            · have hkm : t2 = k := by omega
              subst hkm
              clear hlt hk
              have HF : Hid (Dst w0 wr u0 (l ++ lowL ds Q) b ds) := by
                show Dst _ _ _ _ _ _
                rw [← HU.out]; exact HD.out
              clear HD
              go_wp2_with fail
              go_ret
              exact ⟨_, rfl, HF.out⟩
set_option maxHeartbeats 8000000 in
set_option maxRecDepth 100000 in
theorem efg_lowN (w0 w : World) (v : Value) (l ds : List UInt8) (b c : Nat) (sh : Bool) (hD : Dst w0 w v l b ds) (hl : l.length ≤ 100) (hc : ds.length ≤ c) (hc2 : c ≤ 1000) (Q : Nat) (D : Int) (hDQ : D = -(Q : Int)) (hQ : Q ≤ 3) :
    Calls Tryz.prog 90 #[v, .bool true, .slice (some ⟨b, 0, none⟩) c c, .int .i64 D, .int .i64 (ds.length : Nat), .int .i64 3, .int .u8 102, .bool sh] w fun e w' => ∃ v', e = .returned v' ∧ Dst w0 w' v' (l ++ [45] ++ lowL ds Q) b ds := by
  have HD0 := Lib.hid hD
  obtain ⟨h, hh⟩ : ∃ h, 3 - Q = h := ⟨_, rfl⟩
  obtain ⟨m2, hm2⟩ : ∃ m2, min h ds.length = m2 := ⟨_, rfl⟩
  obtain ⟨t2, ht2⟩ : ∃ t2, h - m2 = t2 := ⟨_, rfl⟩
  have HU : Hid (l ++ [45] ++ [48] ++ [46] ++ rep Q ++ ds.take m2 ++ rep t2 = l ++ [45] ++ lowL ds Q) := by
    show _ = _
    unfold lowL
    rw [hh, hm2, ht2]; simp only [List.append_assoc]; rfl
  have i0 : ¬ (0 : Int) < D := by omega
  have i1 : -D = (Q : Int) := by omega
  have i2 : max (0 : Int) (Q : Int) = (Q : Int) := by omega
  have i3 : min (3 : Int) (Q : Int) = (Q : Int) := by omega
  have i4 : D + (Q : Int) = 0 := by omega
  have i5 : 3 - (Q : Int) = (h : Int) := by omega
  have i6 : max (0 : Int) (ds.length : Int) = (ds.length : Int) := by omega
  have i7 : min (h : Int) (ds.length : Int) = (m2 : Int) := by omega
  have i8 : max (0 : Int) ((h : Int) - (m2 : Int)) = (t2 : Int) := by omega
  have j1 : m2 ≤ ds.length ∧ m2 ≤ 3 ∧ t2 ≤ 3 := by omega
  have hDb : -3 ≤ D ∧ D ≤ 0 := by omega
  obtain ⟨j11, j12, j13⟩ := j1
  obtain ⟨j14, j15⟩ := hDb
  clear hD hh hm2 ht2 hDQ
  go_enter Tryz.func90, Tryz.ntmps90
  have HBz : Hid (l.length + 1 ≤ 1000000) := by show _ ≤ _; omega
  have HBy : Hid ((l ++ [45]).length + 1 ≤ 1000000) := by show _ ≤ _; simp only [List.length_append, List.length_cons, List.length_nil]; omega
  have HBx : Hid ((l ++ [45] ++ [48]).length + 1 ≤ 1000000) := by show _ ≤ _; simp only [List.length_append, List.length_cons, List.length_nil]; omega
  go_wp2_with (at_builtin; first | (refine app_byte rfl _ _ rfl w0 w HD0.out rfl 45 _ rfl rfl HBz.out ?_; intro v1 w1 hd1) | (refine app_byte rfl _ _ rfl w0 w1 hd1 rfl 48 _ rfl rfl HBy.out ?_; intro v2 w2 hd2) | (refine app_byte rfl _ _ rfl w0 w2 hd2 rfl 46 _ rfl rfl HBx.out ?_; intro v3 w3 hd3))
  have hll : (l ++ [45]).length ≤ 101 := by rw [List.length_append, List.length_singleton]; omega
  obtain ⟨ll, hle⟩ : ∃ ll, l ++ [(45 : UInt8)] = ll := ⟨_, rfl⟩
  have HLE := Lib.hid hle
  rw [hle] at hll hd3 HU
  have HDc := Lib.hid hd3
  clear hd1 hd2 hd3 HD0 HBz HBy HBx hle
  go_loopw [0, 240] (fun v0 vi wr => ∃ k : Nat, k ≤ Q ∧ vi = .int .i64 k ∧ Hid (Dst w0 wr v0 (ll ++ [48] ++ [46] ++ rep k) b ds)) (fun _ vi _ => Q - (intOf vi).toNat)
  case atStart => exact ⟨0, Nat.zero_le _, rfl, by show Dst _ _ _ _ _ _; simpa [rep] using HDc.out⟩
  case round =>
    clear HDc
    obtain ⟨k, hk, rfl, HD⟩ := hrel
    by_cases hlt : k < Q
    · have HS : Hid (ll ++ [48] ++ [46] ++ rep (k + 1) = (ll ++ [48] ++ [46] ++ rep k) ++ [48]) := by
        show _ = _
        rw [rep_succ]
        exact (List.append_assoc _ _ _).symm
      have HB : Hid ((ll ++ [48] ++ [46] ++ rep k).length + 1 ≤ 1000000) := by
        show _ ≤ _
        simp only [List.length_append, List.length_cons, List.length_nil, rep_len]; omega

      obtain ⟨X, hX⟩ : ∃ X, ll ++ [48] ++ [46] ++ rep k = X := ⟨_, rfl⟩
      rw [hX] at HS HB HD
      clear hX
      go_wp2_with (at_builtin; (refine app_byte rfl _ _ rfl w0 wr HD.out rfl 48 _ rfl rfl HB.out ?_; intro v' w' hd'))
      have HD2 : Hid (Dst w0 w' v' (ll ++ [48] ++ [46] ++ rep (k + 1)) b ds) := by show Dst _ _ _ _ _ _; rw [HS.out]; exact hd'
      clear hd' HS HB HD
      go_roundw
      case rel => exact ⟨k + 1, by omega, by go_num, HD2⟩
      case measure => simp [intOf]; omega
    · have hkm : Q = k := by omega
      subst hkm
      clear hlt hk
      have HDa := HD
      clear HD
      go_wp2_with fail
      go_loopw [0, 247] (fun v0 vi wr => ∃ k : Nat, k ≤ m2 ∧ vi = .int .i64 k ∧ Hid (Dst w0 wr v0 (ll ++ [48] ++ [46] ++ rep Q ++ ds.take k) b ds)) (fun _ vi _ => m2 - (intOf vi).toNat)
      case atStart => exact ⟨0, Nat.zero_le _, rfl, by show Dst _ _ _ _ _ _; simpa [rep] using HDa.out⟩
      case round =>
        clear HDa
        obtain ⟨k, hk, rfl, HD⟩ := hrel
        by_cases hlt : k < m2
        · have hkj : k < ds.length := by omega
          have y0 := HD.out.dig k hkj
          have ytk : ds.take (k + 1) = ds.take k ++ [ds[k]] := List.take_succ_eq_append_getElem hkj
          have hcl : (k : Int) < (c : Int) := by omega
          have HT := Lib.hid ytk
          generalize ds[k] = ch at *
          clear ytk hkj
          have HS : Hid (ll ++ [48] ++ [46] ++ rep Q ++ ds.take (k + 1) = (ll ++ [48] ++ [46] ++ rep Q ++ ds.take k) ++ [ch]) := by
            show _ = _
            rw [HT.out]
            exact (List.append_assoc _ _ _).symm
          have HB : Hid ((ll ++ [48] ++ [46] ++ rep Q ++ ds.take k).length + 1 ≤ 1000000) := by
            show _ ≤ _
            simp only [List.length_append, List.length_take, List.length_cons, List.length_nil, rep_len]; omega
          obtain ⟨X, hX⟩ : ∃ X, ll ++ [48] ++ [46] ++ rep Q ++ ds.take k = X := ⟨_, rfl⟩
          rw [hX] at HS HB HD
          clear hX
          go_wp2_with (at_builtin; (refine app_byte rfl _ _ rfl w0 wr HD.out rfl ch _ rfl rfl HB.out ?_; intro v' w' hd'))
          have HD2 : Hid (Dst w0 w' v' (ll ++ [48] ++ [46] ++ rep Q ++ ds.take (k + 1)) b ds) := by show Dst _ _ _ _ _ _; rw [HS.out]; exact hd'
          clear hd' HS HB HD HT y0
          go_roundw
          case rel => exact ⟨k + 1, by omega, by go_num, HD2⟩
          case measure => simp [intOf]; omega
        · have hkm : m2 = k := by omega
          subst hkm
          clear hlt hk
          have HDb := HD
          clear HD
          go_wp2_with fail
          go_loopw [0, 261] (fun v0 vi wr => ∃ k : Nat, k ≤ t2 ∧ vi = .int .i64 k ∧ Hid (Dst w0 wr v0 (ll ++ [48] ++ [46] ++ rep Q ++ ds.take m2 ++ rep k) b ds)) (fun _ vi _ => t2 - (intOf vi).toNat)
          case atStart => exact ⟨0, Nat.zero_le _, rfl, by show Dst _ _ _ _ _ _; simpa [rep] using HDb.out⟩
          case round =>
            clear HDb
            obtain ⟨k, hk, rfl, HD⟩ := hrel
            by_cases hlt : k < t2
            · have HS : Hid (ll ++ [48] ++ [46] ++ rep Q ++ ds.take m2 ++ rep (k + 1) = (ll ++ [48] ++ [46] ++ rep Q ++ ds.take m2 ++ rep k) ++ [48]) := by
                show _ = _
                rw [rep_succ]
                exact (List.append_assoc _ _ _).symm
              have HB : Hid ((ll ++ [48] ++ [46] ++ rep Q ++ ds.take m2 ++ rep k).length + 1 ≤ 1000000) := by
                show _ ≤ _
                simp only [List.length_append, List.length_take, List.length_cons, List.length_nil, rep_len]; omega

              obtain ⟨X, hX⟩ : ∃ X, ll ++ [48] ++ [46] ++ rep Q ++ ds.take m2 ++ rep k = X := ⟨_, rfl⟩
              rw [hX] at HS HB HD
              clear hX
              go_wp2_with (at_builtin; (refine app_byte rfl _ _ rfl w0 wr HD.out rfl 48 _ rfl rfl HB.out ?_; intro v' w' hd'))
              have HD2 : Hid (Dst w0 w' v' (ll ++ [48] ++ [46] ++ rep Q ++ ds.take m2 ++ rep (k + 1)) b ds) := by show Dst _ _ _ _ _ _; rw [HS.out]; exact hd'
              clear hd' HS HB HD
              go_roundw
              case rel => exact ⟨k + 1, by omega, by go_num, HD2⟩
              case measure => simp [intOf]; omega
            · have hkm : t2 = k := by omega
              subst hkm
              clear hlt hk
              have HF : Hid (Dst w0 wr u0 (l ++ [45] ++ lowL ds Q) b ds) := by
                show Dst _ _ _ _ _ _
                rw [HLE.out, ← HU.out]; exact HD.out
              clear HD
              go_wp2_with fail
              go_ret
              exact ⟨_, rfl, HF.out⟩
end Go.Proofs.YtmhgacgneckboaaGreatDoor

namespace Go.Proofs.YtmhgacgneckboaaGreatDoor
open Go Go.RowKit Fta

set_option maxHeartbeats 8000000 in
set_option maxRecDepth 100000 in
theorem efg_zeroP (w0 w : World) (v : Value) (l : List UInt8) (b : Nat) (sh : Bool) (hD : Dst w0 w v l b []) (hl : l.length ≤ 100) :
    Calls Tryz.prog 90 #[v, .bool false, .slice none 0 0, .int .i64 0, .int .i64 0, .int .i64 3, .int .u8 102, .bool sh] w fun e w' => ∃ v', e = .returned v' ∧ Dst w0 w' v' (l ++ [48, 46, 48, 48, 48]) b [] := by
  have HD0 := Lib.hid hD
  have i0 : min (3 : Int) 0 = 0 := by decide
  have i1 : max (0 : Int) 0 = 0 := by decide
  obtain ⟨t2, ht2⟩ : ∃ t2 : Nat, t2 = 3 := ⟨3, rfl⟩
  have i2 : max (0 : Int) 3 = (t2 : Int) := by rw [ht2]; decide
  have HU : Hid (l ++ [48] ++ [46] ++ rep t2 = l ++ [48, 46, 48, 48, 48]) := by
    show _ = _
    rw [ht2]; simp only [List.append_assoc]; rfl
  have j1 : t2 ≤ 3 := by omega
  have HBz : Hid (l.length + 1 ≤ 1000000) := by show _ ≤ _; omega
  have HBy : Hid ((l ++ [48]).length + 1 ≤ 1000000) := by show _ ≤ _; simp only [List.length_append, List.length_cons, List.length_nil]; omega
  clear hD ht2
  go_enter Tryz.func90, Tryz.ntmps90
  go_wp2_with (at_builtin; first | (refine app_byte rfl _ _ rfl w0 w HD0.out rfl 48 _ rfl rfl HBz.out ?_; intro v2 w2 hd2) | (refine app_byte rfl _ _ rfl w0 w2 hd2 rfl 46 _ rfl rfl HBy.out ?_; intro v3 w3 hd3))
  have hll : l.length ≤ 101 := by omega
  obtain ⟨ll, hle⟩ : ∃ ll, l = ll := ⟨_, rfl⟩
  subst hle
  have HDb := Lib.hid hd3
  clear hd2 hd3 HD0 HBz HBy
  go_loopw [0, 240] (fun v0 vi wr => v0 = v3 ∧ vi = .int .i64 0 ∧ wr = w3) (fun _ _ _ => 0)
  case atStart => exact ⟨rfl, rfl, rfl⟩
  case round =>
    obtain ⟨rfl, rfl, rfl⟩ := hrel
    go_wp2_with fail
    obtain ⟨vz, hvz⟩ : ∃ vz, u0 = vz := ⟨_, rfl⟩
    obtain ⟨wz, hwz⟩ : ∃ wz, wr = wz := ⟨_, rfl⟩
    subst hvz hwz
    go_loopw [0, 247] (fun v0 vi wx => v0 = u0 ∧ vi = .int .i64 0 ∧ wx = wr) (fun _ _ _ => 0)
    case atStart => exact ⟨rfl, rfl, rfl⟩
    case round =>
      obtain ⟨rfl, rfl, rfl⟩ := hrel
      go_wp2_with fail
      go_loopw [0, 261] (fun v0 vi wr => ∃ k : Nat, k ≤ t2 ∧ vi = .int .i64 k ∧ Hid (Dst w0 wr v0 (l ++ [48] ++ [46] ++ rep k) b [])) (fun _ vi _ => t2 - (intOf vi).toNat)
      case atStart => exact ⟨0, Nat.zero_le _, rfl, by show Dst _ _ _ _ _ _; simpa [rep] using HDb.out⟩
      case round =>
        clear HDb
        obtain ⟨k, hk, rfl, HD⟩ := hrel
        by_cases hlt : k < t2
        · have HS : Hid (l ++ [48] ++ [46] ++ rep (k + 1) = (l ++ [48] ++ [46] ++ rep k) ++ [48]) := by
            show _ = _
            rw [rep_succ]
            exact (List.append_assoc _ _ _).symm
          have HB : Hid ((l ++ [48] ++ [46] ++ rep k).length + 1 ≤ 1000000) := by
            show _ ≤ _
            simp only [List.length_append, List.length_cons, List.length_nil, rep_len]; omega

          obtain ⟨X, hX⟩ : ∃ X, l ++ [48] ++ [46] ++ rep k = X := ⟨_, rfl⟩
          rw [hX] at HS HB HD
          clear hX
          go_wp2_with (at_builtin; (refine app_byte rfl _ _ rfl w0 wr HD.out rfl 48 _ rfl rfl HB.out ?_; intro v' w' hd'))
          have HD2 : Hid (Dst w0 w' v' (l ++ [48] ++ [46] ++ rep (k + 1)) b []) := by show Dst _ _ _ _ _ _; rw [HS.out]; exact hd'
          clear hd' HS HB HD
          go_roundw
          case rel => exact ⟨k + 1, by omega, by go_num, HD2⟩
          case measure => simp [intOf]; omega
        · have hkm : t2 = k := by omega
          subst hkm
          clear hlt hk
          have HF : Hid (Dst w0 wr u0 (l ++ [48, 46, 48, 48, 48]) b []) := by
            show Dst _ _ _ _ _ _
            rw [← HU.out]; exact HD.out
          clear HD
          go_wp2_with fail
          go_ret
          exact ⟨_, rfl, HF.out⟩
set_option maxHeartbeats 8000000 in
set_option maxRecDepth 100000 in
theorem efg_zeroN (w0 w : World) (v : Value) (l : List UInt8) (b : Nat) (sh : Bool) (hD : Dst w0 w v l b []) (hl : l.length ≤ 100) :
    Calls Tryz.prog 90 #[v, .bool true, .slice none 0 0, .int .i64 0, .int .i64 0, .int .i64 3, .int .u8 102, .bool sh] w fun e w' => ∃ v', e = .returned v' ∧ Dst w0 w' v' (l ++ [45] ++ [48, 46, 48, 48, 48]) b [] := by
  have HD0 := Lib.hid hD
  have i0 : min (3 : Int) 0 = 0 := by decide
  have i1 : max (0 : Int) 0 = 0 := by decide
  obtain ⟨t2, ht2⟩ : ∃ t2 : Nat, t2 = 3 := ⟨3, rfl⟩
  have i2 : max (0 : Int) 3 = (t2 : Int) := by rw [ht2]; decide
  have HU : Hid (l ++ [45] ++ [48] ++ [46] ++ rep t2 = l ++ [45] ++ [48, 46, 48, 48, 48]) := by
    show _ = _
    rw [ht2]; simp only [List.append_assoc]; rfl
  have j1 : t2 ≤ 3 := by omega
  have HBz : Hid (l.length + 1 ≤ 1000000) := by show _ ≤ _; omega
  have HBy : Hid ((l ++ [45]).length + 1 ≤ 1000000) := by show _ ≤ _; simp only [List.length_append, List.length_cons, List.length_nil]; omega
  have HBx : Hid ((l ++ [45] ++ [48]).length + 1 ≤ 1000000) := by show _ ≤ _; simp only [List.length_append, List.length_cons, List.length_nil]; omega
  clear hD ht2
  go_enter Tryz.func90, Tryz.ntmps90
  go_wp2_with (at_builtin; first | (refine app_byte rfl _ _ rfl w0 w HD0.out rfl 45 _ rfl rfl HBz.out ?_; intro v1 w1 hd1) | (refine app_byte rfl _ _ rfl w0 w1 hd1 rfl 48 _ rfl rfl HBy.out ?_; intro v2 w2 hd2) | (refine app_byte rfl _ _ rfl w0 w2 hd2 rfl 46 _ rfl rfl HBx.out ?_; intro v3 w3 hd3))
  have hll : (l ++ [45]).length ≤ 101 := by rw [List.length_append, List.length_singleton]; omega
  obtain ⟨ll, hle⟩ : ∃ ll, l ++ [(45 : UInt8)] = ll := ⟨_, rfl⟩
  have HLE := Lib.hid hle
  rw [hle] at hll hd3 HU
  have HDb := Lib.hid hd3
  clear hd1 hd2 hd3 HD0 HBz HBy HBx hle
  go_loopw [0, 240] (fun v0 vi wr => v0 = v3 ∧ vi = .int .i64 0 ∧ wr = w3) (fun _ _ _ => 0)
  case atStart => exact ⟨rfl, rfl, rfl⟩
  case round =>
    obtain ⟨rfl, rfl, rfl⟩ := hrel
    go_wp2_with fail
    obtain ⟨vz, hvz⟩ : ∃ vz, u0 = vz := ⟨_, rfl⟩
    obtain ⟨wz, hwz⟩ : ∃ wz, wr = wz := ⟨_, rfl⟩
    subst hvz hwz
    go_loopw [0, 247] (fun v0 vi wx => v0 = u0 ∧ vi = .int .i64 0 ∧ wx = wr) (fun _ _ _ => 0)
    case atStart => exact ⟨rfl, rfl, rfl⟩
    case round =>
      obtain ⟨rfl, rfl, rfl⟩ := hrel
      go_wp2_with fail
      go_loopw [0, 261] (fun v0 vi wr => ∃ k : Nat, k ≤ t2 ∧ vi = .int .i64 k ∧ Hid (Dst w0 wr v0 (ll ++ [48] ++ [46] ++ rep k) b [])) (fun _ vi _ => t2 - (intOf vi).toNat)
      case atStart => exact ⟨0, Nat.zero_le _, rfl, by show Dst _ _ _ _ _ _; simpa [rep] using HDb.out⟩
      case round =>
        clear HDb
        obtain ⟨k, hk, rfl, HD⟩ := hrel
        by_cases hlt : k < t2
        · have HS : Hid (ll ++ [48] ++ [46] ++ rep (k + 1) = (ll ++ [48] ++ [46] ++ rep k) ++ [48]) := by
            show _ = _
            rw [rep_succ]
            exact (List.append_assoc _ _ _).symm
          have HB : Hid ((ll ++ [48] ++ [46] ++ rep k).length + 1 ≤ 1000000) := by
            show _ ≤ _
            simp only [List.length_append, List.length_cons, List.length_nil, rep_len]; omega

          obtain ⟨X, hX⟩ : ∃ X, ll ++ [48] ++ [46] ++ rep k = X := ⟨_, rfl⟩
          rw [hX] at HS HB HD
          clear hX
          go_wp2_with (at_builtin; (refine app_byte rfl _ _ rfl w0 wr HD.out rfl 48 _ rfl rfl HB.out ?_; intro v' w' hd'))
          have HD2 : Hid (Dst w0 w' v' (ll ++ [48] ++ [46] ++ rep (k + 1)) b []) := by show Dst _ _ _ _ _ _; rw [HS.out]; exact hd'
          clear hd' HS HB HD
          go_roundw
          case rel => exact ⟨k + 1, by omega, by go_num, HD2⟩
          case measure => simp [intOf]; omega
        · have hkm : t2 = k := by omega
          subst hkm
          clear hlt hk
          have HF : Hid (Dst w0 wr u0 (l ++ [45] ++ [48, 46, 48, 48, 48]) b []) := by
            show Dst _ _ _ _ _ _
            rw [HLE.out, ← HU.out]; exact HD.out
          clear HD
          go_wp2_with fail
          go_ret
          exact ⟨_, rfl, HF.out⟩
end Go.Proofs.YtmhgacgneckboaaGreatDoor
