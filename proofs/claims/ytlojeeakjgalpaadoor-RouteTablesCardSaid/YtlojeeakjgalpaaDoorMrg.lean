/- A walk: the merge of two runs (symMergeCmpFunc) at a row of places. -/
import Derived.Test.YtlojeeakjgalpaaDoorIns
namespace Go.Proofs.YtlojeeakjgalpaaDoor
open Go Go.RowKit Go.Sort

/-- A test of two places: what the region is told. -/
theorem Sw.two {n : Nat} {cf : Nat → Nat → Int} {vp vq : Value} {w0 W : World} {blk off : Nat} {d : Array Nat} (h : Sw w0 blk off d W) (hC : CmpOk n cf vp vq w0 blk) (hn : Lt n d) {i j x y : Nat} (hi : i < d.size) (hj : j < d.size) (hx : d[i]! = x) (hy : d[j]! = y) :
    (∀ m os, (grow (redrawn W m) os).cell? ⟨blk, off + i, none⟩ = some (.int .i64 (x : Int))) ∧ (∀ m os, (grow (redrawn W m) os).cell? ⟨blk, off + j, none⟩ = some (.int .i64 (y : Int))) ∧
    (∀ m os, Calls Tryd.prog 38 #[.int .i64 x, .int .i64 y, vp, vq] (grow (redrawn W m) os) fun e w' => e = .returned (.int .i64 (cf x y)) ∧ ∃ p : Regrown, w' = grow (redrawn W p.d) p.os) :=
  ⟨fun m os => by rw [← hx]; exact h.cl i hi m os, fun m os => by rw [← hy]; exact h.cl j hj m os, fun m os => h.cmp hC (by rw [← hx]; exact hn i hi) (by rw [← hy]; exact hn j hj) m os⟩
/-- An exchange of two places. -/
theorem Sw.ex {w0 W : World} {blk off : Nat} {d : Array Nat} (h : Sw w0 blk off d W) {i j x y : Nat} (hi : i < d.size) (hj : j < d.size) (hx : d[i]! = x) (hy : d[j]! = y) :
    W.cell? ⟨blk, off + i, none⟩ = some (.int .i64 (x : Int)) ∧ W.cell? ⟨blk, off + j, none⟩ = some (.int .i64 (y : Int)) ∧ W.frozen? ⟨blk, off + i, none⟩ = false ∧ W.frozen? ⟨blk, off + j, none⟩ = false ∧
      (∃ u, (W.setCell ⟨blk, off + i, none⟩ (.int .i64 (y : Int))).cell? ⟨blk, off + j, none⟩ = some u) ∧
      Hid (Sw w0 blk off (swp d i j) ((W.setCell ⟨blk, off + i, none⟩ (.int .i64 (y : Int))).setCell ⟨blk, off + j, none⟩ (.int .i64 (x : Int))).drew) :=
  ⟨by rw [← hx]; exact h.c i hi, by rw [← hy]; exact h.c j hj, h.f i hi, h.f j hj, h.c2 i j hi hj _, by rw [← hx, ← hy]; exact (h.swap i j hi hj).drew⟩

set_option maxHeartbeats 16000000 in
set_option maxRecDepth 1000000 in
/-- The first run is one. -/
theorem merge_first (n : Nat) (cf : Nat → Nat → Int) (vp vq : Value) (w0 : World) (blk off cap a m b : Nat) (s : Nat → Nat → Bool) (T : StS.Tot s) (d : Array Nat) (W : World) (hC : CmpOk n cf vp vq w0 blk) (S : Sw w0 blk off d W) (hn : Lt n d) (R : StS.Runs (ltf cf) s a m b d) (hsz : d.size < 2305843009213693952) (h1 : m = a + 1) :
    Calls Tryd.prog 67 #[.slice (some ⟨blk, off, none⟩) d.size cap, .int .i64 a, .int .i64 m, .int .i64 b, .func (.func 38) #[] #[vp, vq]] W fun e w' => e = .returned (.tuple #[]) ∧ ∃ d', StS.Merged s a b d d' ∧ Sw w0 blk off d' w' := by
  have S0 : Hid (Sw w0 blk off d W) := S
  have HC : Hid (CmpOk n cf vp vq w0 blk) := hC
  have HN : Hid (Lt n d) := hn
  have HR : Hid (StS.Runs (ltf cf) s a m b d) := R
  have mixed : Tryd.prog.follows .mixedOrders = true := by kernel_rfl
  have hmb : m < b := R.mb
  have hbs : b ≤ d.size := R.bs
  have e0 : (m : Int) - (a : Int) = 1 := by omega
  have ham : a < m := by omega
  have H1 : Hid (m = a + 1) := h1
  clear S hC hn R h1
  go_enter Tryd.func67, Tryd.ntmps67
  go_wp2
  go_loopw [10, 11] (fun vi vj wr => ∃ i j : Nat, vi = .int .i64 i ∧ vj = .int .i64 j ∧ m ≤ i ∧ i ≤ j ∧ j ≤ b ∧ Hid ((i = m ∨ ltf cf d[i - 1]! d[a]! = true) ∧ (j = b ∨ ltf cf d[j]! d[a]! = false)) ∧ Hid (Sw w0 blk off d wr)) (fun vi vj _ => (intOf vj).toNat - (intOf vi).toNat)
  case atStart => exact ⟨m, b, rfl, rfl, Nat.le_refl _, by omega, Nat.le_refl _, ⟨.inl rfl, .inl rfl⟩, S0⟩
  case round =>
    clear S0
    obtain ⟨i, j, rfl, rfl, hmi, hij, hjb, HI, S1⟩ := hrel
    by_cases hlt : i < j
    · have hltz : (i : Int) < (j : Int) := by omega
      obtain ⟨h, hh1, hh2⟩ : ∃ h, 2 * h ≤ i + j ∧ i + j ≤ 2 * h + 1 := ⟨(i + j) / 2, by omega, by omega⟩
      have eh : ((i : Int) + (j : Int)) / 2 = (h : Int) := by omega
      have hl : h < d.size := by omega
      have al : a < d.size := by omega
      obtain ⟨x, hx⟩ : ∃ x, d[h]! = x := ⟨_, rfl⟩
      obtain ⟨y, hy⟩ : ∃ x, d[a]! = x := ⟨_, rfl⟩
      obtain ⟨c1, c2, hcmp⟩ := S1.out.two HC.out HN.out hl al hx hy
      by_cases hv : cf x y < 0
      · have HT : Hid (ltf cf d[h]! d[a]! = true) := by show _ = _; rw [hx, hy]; exact decide_eq_true hv
        have hd : decide (cf x y < 0) = true := decide_eq_true hv
        clear hx hy
        go_wp2_with fail
        refine wp_region_quiet_below (by kernel_rfl) (by kernel_rfl) ?_
        repeat (go_big_quiet_step ((go_at_call 38; exact hcmp _ _)))
        refine wpQuiet_nil ?_
        intro _ hw'
        obtain ⟨⟨dq, osq⟩, hw''⟩ := hw'
        subst hw''
        have S2 : Hid (Sw w0 blk off d (grow (redrawn wr dq) osq)) := S1.out.regrown dq osq
        clear c1 c2 hcmp S1
        generalize grow (redrawn wr dq) osq = w2 at S2 ⊢
        go_wp2
        go_roundw
        case rel => exact ⟨h + 1, j, by go_num, rfl, by omega, by omega, hjb, ⟨.inr HT.out, HI.out.2⟩, S2⟩
        case measure => simp [intOf]; omega
      · have HT : Hid (ltf cf d[h]! d[a]! = false) := by show _ = _; rw [hx, hy]; exact decide_eq_false hv
        have hd : decide (cf x y < 0) = false := decide_eq_false hv
        clear hx hy
        go_wp2_with fail
        refine wp_region_quiet_below (by kernel_rfl) (by kernel_rfl) ?_
        repeat (go_big_quiet_step ((go_at_call 38; exact hcmp _ _)))
        refine wpQuiet_nil ?_
        intro _ hw'
        obtain ⟨⟨dq, osq⟩, hw''⟩ := hw'
        subst hw''
        have S2 : Hid (Sw w0 blk off d (grow (redrawn wr dq) osq)) := S1.out.regrown dq osq
        clear c1 c2 hcmp S1
        generalize grow (redrawn wr dq) osq = w2 at S2 ⊢
        go_wp2
        go_roundw
        case rel => exact ⟨i, h, rfl, by first | rfl | go_num, by omega, by omega, by omega, ⟨HI.out.1, .inr HT.out⟩, S2⟩
        case measure => simp [intOf]; omega
    · obtain rfl : i = j := by omega
      go_wp2
      go_loopw [13] (fun vk wr => ∃ k : Nat, vk = .int .i64 k ∧ a ≤ k ∧ k ≤ i - 1 ∧ Hid (Sw w0 blk off (StS.sunk d a (k - a)) wr)) (fun vk _ => i - (intOf vk).toNat)
      case atStart => exact ⟨a, rfl, Nat.le_refl _, by omega, by rw [Nat.sub_self]; exact S1⟩
      case round =>
        clear S1
        obtain ⟨k, rfl, hak, hki, S1⟩ := hrel
        by_cases hlt2 : k < i - 1
        · have hkz : (k : Int) < (i : Int) - 1 := by omega
          have hs := StS.sunk_size d a (k - a)
          obtain ⟨q, hq⟩ : ∃ q, k + 1 = q := ⟨_, rfl⟩
          have eq1 : (k : Int) + 1 = (q : Int) := by omega
          have kl : k < d.size := by omega
          have ql : q < d.size := by omega
          obtain ⟨x, hx⟩ : ∃ x, (StS.sunk d a (k - a))[k]! = x := ⟨_, rfl⟩
          obtain ⟨y, hy⟩ : ∃ x, (StS.sunk d a (k - a))[q]! = x := ⟨_, rfl⟩
          obtain ⟨ca, cb, fa, fb, ⟨u, cc⟩, S3⟩ := S1.out.ex (by omega) (by omega) hx hy
          have es : swp (StS.sunk d a (k - a)) k q = StS.sunk d a (k + 1 - a) := by
            rw [show k + 1 - a = (k - a) + 1 by omega, StS.sunk, show a + (k - a) = k by omega, ← hq]
          rw [es] at S3
          clear hx hy S1 es hs
          go_wp2_with fail
          go_big_region_o
          clear ca cb cc fa fb
          generalize ((wr.setCell ⟨blk, off + k, none⟩ (.int .i64 (y : Int))).setCell ⟨blk, off + q, none⟩ (.int .i64 (x : Int))).drew = w3 at S3 ⊢
          go_wp2
          go_roundw
          case rel => exact ⟨k + 1, by first | go_num | (congr 1; omega), by omega, by omega, S3⟩
          case measure => simp [intOf]; omega
        · have hkz : ¬ (k : Int) < (i : Int) - 1 := by omega
          obtain rfl : k = i - 1 := by omega
          go_wp2
          refine bodyPost_ret (results_none rfl _ _ _) rfl ?_
          refine ⟨rfl, _, ⟨?_, ?_⟩, S1.out⟩
          · exact StS.sunk_perm d a _ a b (Nat.le_refl _) (by omega) hbs
          · obtain rfl := H1.out
            exact StS.sunk_sorted T d a b i hmi hjb hbs HR.out.right HR.out.ag HI.out.1 HI.out.2

set_option maxHeartbeats 16000000 in
set_option maxRecDepth 1000000 in
/-- The second run is one. -/
theorem merge_second (n : Nat) (cf : Nat → Nat → Int) (vp vq : Value) (w0 : World) (blk off cap a m b : Nat) (s : Nat → Nat → Bool) (T : StS.Tot s) (d : Array Nat) (W : World) (hC : CmpOk n cf vp vq w0 blk) (S : Sw w0 blk off d W) (hn : Lt n d) (R : StS.Runs (ltf cf) s a m b d) (hsz : d.size < 2305843009213693952) (h0 : m ≠ a + 1) (h1 : b = m + 1) :
    Calls Tryd.prog 67 #[.slice (some ⟨blk, off, none⟩) d.size cap, .int .i64 a, .int .i64 m, .int .i64 b, .func (.func 38) #[] #[vp, vq]] W fun e w' => e = .returned (.tuple #[]) ∧ ∃ d', StS.Merged s a b d d' ∧ Sw w0 blk off d' w' := by
  have S0 : Hid (Sw w0 blk off d W) := S
  have HC : Hid (CmpOk n cf vp vq w0 blk) := hC
  have HN : Hid (Lt n d) := hn
  have HR : Hid (StS.Runs (ltf cf) s a m b d) := R
  have mixed : Tryd.prog.follows .mixedOrders = true := by kernel_rfl
  have ham : a < m := R.am
  have hbs : b ≤ d.size := R.bs
  have e0 : ¬ (m : Int) - (a : Int) = 1 := by omega
  have e0' : ((m : Int) - (a : Int) == 1) = false := by simpa using e0
  have e1 : (b : Int) - (m : Int) = 1 := by omega
  have H1 : Hid (b = m + 1) := h1
  have hmb : m < b := by omega
  clear S hC hn R h1 h0
  go_enter Tryd.func67, Tryd.ntmps67
  go_wp2
  go_loopw [14, 15] (fun vi vj wr => ∃ i j : Nat, vi = .int .i64 i ∧ vj = .int .i64 j ∧ a ≤ i ∧ i ≤ j ∧ j ≤ m ∧ Hid ((i = a ∨ ltf cf d[m]! d[i - 1]! = false) ∧ (j = m ∨ ltf cf d[m]! d[j]! = true)) ∧ Hid (Sw w0 blk off d wr)) (fun vi vj _ => (intOf vj).toNat - (intOf vi).toNat)
  case atStart => exact ⟨a, m, rfl, rfl, Nat.le_refl _, by omega, Nat.le_refl _, ⟨.inl rfl, .inl rfl⟩, S0⟩
  case round =>
    clear S0
    obtain ⟨i, j, rfl, rfl, hmi, hij, hjb, HI, S1⟩ := hrel
    by_cases hlt : i < j
    · have hltz : (i : Int) < (j : Int) := by omega
      obtain ⟨h, hh1, hh2⟩ : ∃ h, 2 * h ≤ i + j ∧ i + j ≤ 2 * h + 1 := ⟨(i + j) / 2, by omega, by omega⟩
      have eh : ((i : Int) + (j : Int)) / 2 = (h : Int) := by omega
      have hl : h < d.size := by omega
      have ml : m < d.size := by omega
      obtain ⟨x, hx⟩ : ∃ x, d[m]! = x := ⟨_, rfl⟩
      obtain ⟨y, hy⟩ : ∃ x, d[h]! = x := ⟨_, rfl⟩
      obtain ⟨c1, c2, hcmp⟩ := S1.out.two HC.out HN.out ml hl hx hy
      by_cases hv : cf x y < 0
      · have HT : Hid (ltf cf d[m]! d[h]! = true) := by show _ = _; rw [hx, hy]; exact decide_eq_true hv
        have hd : decide (cf x y < 0) = true := decide_eq_true hv
        clear hx hy
        go_wp2_with fail
        refine wp_region_quiet_below (by kernel_rfl) (by kernel_rfl) ?_
        repeat (go_big_quiet_step ((go_at_call 38; exact hcmp _ _)))
        refine wpQuiet_nil ?_
        intro _ hw'
        obtain ⟨⟨dq, osq⟩, hw''⟩ := hw'
        subst hw''
        have S2 : Hid (Sw w0 blk off d (grow (redrawn wr dq) osq)) := S1.out.regrown dq osq
        clear c1 c2 hcmp S1
        generalize grow (redrawn wr dq) osq = w2 at S2 ⊢
        go_wp2
        go_roundw
        case rel => exact ⟨i, h, rfl, by first | rfl | go_num, by omega, by omega, by omega, ⟨HI.out.1, .inr HT.out⟩, S2⟩
        case measure => simp [intOf]; omega
      · have HT : Hid (ltf cf d[m]! d[h]! = false) := by show _ = _; rw [hx, hy]; exact decide_eq_false hv
        have hd : decide (cf x y < 0) = false := decide_eq_false hv
        clear hx hy
        go_wp2_with fail
        refine wp_region_quiet_below (by kernel_rfl) (by kernel_rfl) ?_
        repeat (go_big_quiet_step ((go_at_call 38; exact hcmp _ _)))
        refine wpQuiet_nil ?_
        intro _ hw'
        obtain ⟨⟨dq, osq⟩, hw''⟩ := hw'
        subst hw''
        have S2 : Hid (Sw w0 blk off d (grow (redrawn wr dq) osq)) := S1.out.regrown dq osq
        clear c1 c2 hcmp S1
        generalize grow (redrawn wr dq) osq = w2 at S2 ⊢
        go_wp2
        go_roundw
        case rel => exact ⟨h + 1, j, by go_num, rfl, by omega, by omega, hjb, ⟨.inr HT.out, HI.out.2⟩, S2⟩
        case measure => simp [intOf]; omega
    · obtain rfl : i = j := by omega
      go_wp2
      go_loopw [17] (fun vk wr => ∃ k : Nat, vk = .int .i64 k ∧ i ≤ k ∧ k ≤ m ∧ Hid (Sw w0 blk off (StS.risen d m (m - k)) wr)) (fun vk _ => (intOf vk).toNat)
      case atStart => exact ⟨m, rfl, hjb, Nat.le_refl _, by rw [Nat.sub_self]; exact S1⟩
      case round =>
        clear S1
        obtain ⟨k, rfl, hak, hki, S1⟩ := hrel
        by_cases hlt2 : i < k
        · have hkz : (i : Int) < (k : Int) := by omega
          have hs := StS.risen_size d m (m - k)
          obtain ⟨q, hq⟩ : ∃ q, q + 1 = k := ⟨k - 1, by omega⟩
          have eq1 : (k : Int) - 1 = (q : Int) := by omega
          have kl : k < d.size := by omega
          have ql : q < d.size := by omega
          obtain ⟨x, hx⟩ : ∃ x, (StS.risen d m (m - k))[k]! = x := ⟨_, rfl⟩
          obtain ⟨y, hy⟩ : ∃ x, (StS.risen d m (m - k))[q]! = x := ⟨_, rfl⟩
          obtain ⟨ca, cb, fa, fb, ⟨u, cc⟩, S3⟩ := S1.out.ex (by omega) (by omega) hx hy
          have es : swp (StS.risen d m (m - k)) k q = StS.risen d m (m - q) := by
            rw [show m - q = (m - k) + 1 by omega, StS.risen, show m - (m - k) = k by omega, show k - 1 = q by omega]
          rw [es] at S3
          clear hx hy S1 es hs
          go_wp2_with fail
          go_big_region_o
          clear ca cb cc fa fb
          generalize ((wr.setCell ⟨blk, off + k, none⟩ (.int .i64 (y : Int))).setCell ⟨blk, off + q, none⟩ (.int .i64 (x : Int))).drew = w3 at S3 ⊢
          go_wp2
          go_roundw
          case rel => exact ⟨q, by first | rfl | go_num | (congr 1; omega), by omega, by omega, S3⟩
          case measure => simp [intOf]; omega
        · have hkz : ¬ (i : Int) < (k : Int) := by omega
          obtain rfl : i = k := by omega
          go_wp2
          refine bodyPost_ret (results_none rfl _ _ _) rfl ?_
          obtain rfl := H1.out
          refine ⟨rfl, _, ⟨?_, ?_⟩, S1.out⟩
          · exact StS.risen_perm d m _ a (m + 1) (by omega) (by omega) (by omega) hbs
          · exact StS.risen_sorted T d a m i hmi hki hbs HR.out.left HR.out.ag HI.out.1 HI.out.2
end Go.Proofs.YtlojeeakjgalpaaDoor
