import Derived.Test.YtdamidelojccaaaGreatDoorJ35
import Derived.Test.YtdamidelojccaaaGreatDoorJ36
set_option linter.unusedVariables false
set_option linter.unusedSimpArgs false
set_option maxHeartbeats 4000000
set_option maxRecDepth 100000
namespace Edt
open Go Go.Lib Tre Sch Lns Prs Go.Proofs.Zq
structure PsOk (t : Int) (S : Ps) : Prop where
 run : Zab S.run = true
 back : Zab S.back = true
 revs : ∀ r ∈ S.revs, Zab r.2 = true
 base : ∀ k, k < 3 → Zab (S.ses k).base = true
 mine : ∀ k, k < 3 → Zab (S.ses k).mine = true
 len : (S.revs.length : Int) = min (Zay S) 5
 last : 0 ≤ Zay S ∧ Zay S ≤ t
 clock : 0 ≤ S.clock ∧ S.clock ≤ 2147483647
 dead : S.dead = 0 ∨ S.clock < S.dead ∧ S.dead ≤ S.clock + 65535
 nums : ∀ (i : Nat) r, S.revs[i]? = some r → r.1 = Zay S - ((S.revs.length : Int) - 1 - i)
 top : ∀ r, S.revs.getLast? = some r → r.2 = S.run
 none : S.revs = [] → S.run = []
 lock : 0 ≤ S.lock ∧ S.lock ≤ 3
def Zts : Ps := ⟨[], [], ⟨false, [], []⟩, ⟨false, [], []⟩, ⟨false, [], []⟩, 0, 0, 0, []⟩
theorem Zbp : Zab [] = true := by decide
theorem ses3 {p : Ss → Prop} {S : Ps} (h0 : p S.s0) (h1 : p S.s1) (h2 : p S.s2) (k : Nat) : p (S.ses k) := by
 unfold Ps.ses;split
 · exact h0
 · split
   · exact h1
   · exact h2
theorem Zadz : PsOk 0 Zts where
 run := Zbp
 back := Zbp
 revs _ h := by cases h
 base k _ := ses3 (p := fun s => Zab s.base = true) Zbp Zbp Zbp k
 mine k _ := ses3 (p := fun s => Zab s.mine = true) Zbp Zbp Zbp k
 len := rfl
 last := by decide
 clock := by decide
 dead := .inl rfl
 nums i r h := by cases h
 top r h := by cases h
 none _ := rfl
 lock := by decide
theorem PsOk.mono {t u : Int} {S : Ps} (h : PsOk t S) (hu : t ≤ u) : PsOk u S := { h with last := ⟨h.last.1, Int.le_trans h.last.2 hu⟩ }
theorem PsOk.len5 {t : Int} {S : Ps} (h : PsOk t S) : S.revs.length ≤ 5 := by have := h.len; omega
theorem Znl (S : Ps) (T : List Line) : Zay (Zdg S T) = Zay S + 1 := by
 have : (Zdg S T).revs.getLast? = some (Zay S + 1, T) := by
  show ((S.revs ++ [(Zay S + 1, T)]).drop (S.revs.length + 1 - 5)).getLast? = _;rw [List.getLast?_drop, Yab (by simp; omega), Ycr]; rfl
 conv => lhs; unfold Zay
 rw [this]
theorem Zaea (S : Ps) (T : List Line) : (Zdg S T).revs.getLast? = some (Zay S + 1, T) := by
 show ((S.revs ++ [(Zay S + 1, T)]).drop (S.revs.length + 1 - 5)).getLast? = _;rw [List.getLast?_drop, Yab (by simp; omega), Ycr]; rfl
theorem Zacf (S : Ps) (T : List Line) : (Zdg S T).revs.length = S.revs.length + 1 - (S.revs.length + 1 - 5) := by
 show ((S.revs ++ [(Zay S + 1, T)]).drop (S.revs.length + 1 - 5)).length = _;rw [Yam, Yaj]; rfl
theorem PsOk.made {t : Int} {S : Ps} (h : PsOk t S) {T : List Line} (hT : Zab T = true) : PsOk (t + 1) (Zdg S T) where
 run := hT
 back := h.back
 revs r hr := by
  have hr : r ∈ (S.revs ++ [(Zay S + 1, T)]).drop (S.revs.length + 1 - 5) := hr;rcases Ybm.1 (Yex hr) with hr | hr
  · exact h.revs r hr
  · rw [Yce] at hr; rw [hr]; exact hT
 base k hk := h.base k hk
 mine k hk := h.mine k hk
 len := by
  rw [Zacf, Znl];have h1 := h.len;have h2 := h.last;omega
 last := by rw [Znl]; have := h.last; omega
 clock := h.clock
 dead := h.dead
 nums i r hi := by
  have hi : ((S.revs ++ [(Zay S + 1, T)]).drop (S.revs.length + 1 - 5))[i]? = some r := hi;rw [Ydb] at hi;rw [Znl, Zacf];by_cases hl : S.revs.length + 1 - 5 + i < S.revs.length
  · rw [Ycf hl] at hi;rw [h.nums _ _ hi]; omega
  · rw [Ybh (by omega)] at hi
    have h0 : S.revs.length + 1 - 5 + i - S.revs.length = 0 := by
     cases hx : S.revs.length + 1 - 5 + i - S.revs.length with
     | zero => rfl
     | succ n => rw [hx] at hi; cases hi
    rw [h0] at hi;injection hi with hi
    rw [← hi];show Zay S + 1 = _;omega
 top r hr := by
  rw [Zaea] at hr;injection hr with hr
  rw [← hr]; rfl
 none hr := by
  have := Zaea S T;rw [hr] at this; cases this
 lock := h.lock
theorem PsOk.setSes {t : Int} {S : Ps} (h : PsOk t S) {k : Nat} (hk : k < 3) {b : Bool} {B M : List Line} (h1 : Zab B = true) (h2 : Zab M = true) : PsOk t (S.setSes k ⟨b, B, M⟩) := by
 obtain ⟨f0, f1, f2, f3, f4, f5⟩ := Zbo S k ⟨b, B, M⟩;have fl : Zay (S.setSes k ⟨b, B, M⟩) = Zay S := by unfold Zay; rw [f1]
 refine ⟨f0 ▸ h.run, f5 ▸ h.back, f1 ▸ h.revs, fun j hj => ?_, fun j hj => ?_, by rw [f1, fl]; exact h.len, by rw [fl]; exact h.last, by rw [f3]; exact h.clock, by rw [f3, f4]; exact h.dead, fun i r hr => ?_, fun r hr => ?_, fun hr => ?_, by rw [f2]; exact h.lock⟩
 · rw [Zpw S k j _ hk hj];split
   · exact h1
   · exact h.base j hj
 · rw [Zpw S k j _ hk hj];split
   · exact h2
   · exact h.mine j hj
 · rw [f1] at hr; rw [fl, f1]; exact h.nums i r hr
 · rw [f1] at hr; rw [f0]; exact h.top r hr
 · rw [f1] at hr; rw [f0]; exact h.none hr
def Step (t : Int) (S : Ps) (z : Ps × Int × Int) : Prop :=
 PsOk (t + 1) z.1 ∧ (z.2.1 ≠ 0 → z.1 = S) ∧ (Zay z.1 = Zay S ∨ Zay z.1 = Zay S + 1 ∧ z.2.2 = Zay z.1)
section
variable {t : Int} {S : Ps} (h : PsOk t S)
include h
theorem Zdv (e n : Int) : Step t S (S, e, n) := ⟨h.mono (by omega), fun _ => rfl, .inl rfl⟩
omit h in
theorem Zgh {S' : Ps} (h' : PsOk t S') (hl : Zay S' = Zay S) (n : Int) : Step t S (S', 0, n) := ⟨h'.mono (by omega), fun g => absurd rfl g, .inl hl⟩
omit h in
theorem Zyy {S' : Ps} (h' : PsOk t S') (hl : Zay S' = Zay S) {T : List Line} (hT : Zab T = true) : Step t S (Zdg S' T, 0, Zay (Zdg S' T)) :=
 ⟨h'.made hT, fun g => absurd rfl g, .inr ⟨by rw [Znl, hl], rfl⟩⟩
theorem Zaiy (n : Int) : Step t S (Zlk S n) := by
 by_cases h1 : n < 0 ∨ 2147483647 - S.clock < n
 · rw [Zawg h1]; exact Zdv h _ _
 · have hc := h.clock;by_cases h2 : S.dead = 0 ∨ S.clock + n < S.dead
   · rw [Zawx h1 h2];refine Zgh (S := S) (S' := { S with clock := S.clock + n }) { h with clock := ?_, dead := ?_ } rfl _
     · show 0 ≤ S.clock + n ∧ S.clock + n ≤ 2147483647;omega
     · show S.dead = 0 ∨ S.clock + n < S.dead ∧ S.dead ≤ S.clock + n + 65535;have := h.dead;omega
   · rw [Zawm h1 h2];refine Zyy (S := S) (S' := Zpf S n) { h with clock := ?_, dead := .inl rfl, back := Zbp } rfl h.back
     show 0 ≤ S.clock + n ∧ S.clock + n ≤ 2147483647;omega
theorem Zajo (kind : Int) {k : Nat} (hk : k < 3) : Step t S (Zji S kind k) := by
 have hl : ∀ l, 0 ≤ l ∧ l ≤ 3 → PsOk t { S with lock := l } := fun l hl => { h with lock := hl }
 have hsl : ∀ b B M, Zay (S.setSes k ⟨b, B, M⟩) = Zay S := fun b B M => by unfold Zay; rw [(Zbo S k _).2.1]
 unfold Zji;split
 · split
   · exact Zdv h _ _
   · exact Zgh (h.setSes hk h.run h.run) (hsl _ _ _) _
 · split
   · have g := h.setSes hk (b := false) Zbp Zbp;refine Zgh (S := S) (S' := { S.setSes k ⟨false, [], []⟩ with lock := if S.lock = (k : Int) + 1 then 0 else S.lock }) { g with lock := ?_ } (hsl false [] []) _
     show 0 ≤ (if S.lock = (k : Int) + 1 then 0 else S.lock) ∧ (if S.lock = (k : Int) + 1 then 0 else S.lock) ≤ 3
     have := h.lock;split <;> omega
   · split
     · split
       · exact Zdv h _ _
       · exact Zgh (S := S) (hl ((k : Int) + 1) (by omega)) rfl _
     · split
       · split
         · exact Zdv h _ _
         · exact Zgh (S := S) (hl 0 (by omega)) rfl _
       · exact Zdv h _ _
omit h in
theorem Zwc {B M R : List Line} (h1 : Zab B = true) (h2 : Zab M = true) (h3 : Zab R = true) (he : (Zbj B M R).2.1 = 0) : Zab (Zbj B M R).1 = true := by
 unfold Zbj at he ⊢;split
 · exact Zbp
 · rename_i g1;rw [Yab g1] at he;split
   · exact Zbp
   · rename_i g2;rw [Yab g2] at he;split
     · exact Zbp
     · split
       · exact Zbp
       · exact (Zqa h1 h2 h3 (Decidable.not_not.1 g1)).1
theorem Zaal {k : Nat} (hk : k < 3) (n : Int) : Step t S (Zfm S k n) := by
 unfold Zfm;split
 · exact Zdv h _ _
 · rename_i hn;simp only;split
   · exact Zdv h _ _
   · rename_i he;have hT := Zwc (h.base k hk) (h.mine k hk) h.run (Decidable.not_not.1 he);have g := h.setSes hk (b := true) hT hT;generalize (Zbj (S.ses k).base (S.ses k).mine S.run).1 = T at *;have gl : Zay (S.setSes k ⟨true, T, T⟩) = Zay S := by unfold Zay; rw [(Zbo S k _).2.1]
     split
     · exact Zgh g gl _
     · refine Zyy ?_ ?_ hT
       · unfold Zil;have hc := g.clock;split
         · exact { g with dead := .inl rfl, back := Zbp }
         · split
           · refine { g with dead := .inr ?_, back := h.run }
             show (S.setSes k ⟨true, T, T⟩).clock < (S.setSes k ⟨true, T, T⟩).clock + n ∧ (S.setSes k ⟨true, T, T⟩).clock + n ≤ (S.setSes k ⟨true, T, T⟩).clock + 65535;omega
           · refine { g with dead := .inr ?_ }
             show (S.setSes k ⟨true, T, T⟩).clock < (S.setSes k ⟨true, T, T⟩).clock + n ∧ (S.setSes k ⟨true, T, T⟩).clock + n ≤ (S.setSes k ⟨true, T, T⟩).clock + 65535;omega
       · unfold Zil;split
         · exact gl
         · split <;> exact gl
theorem Zafo {k : Nat} (hk : k < 3) (o : Opp) (he : (Zds S o k).2.1 = 0) : Zab (Zds S o k).1 = true := by
 have hm := h.mine k hk;unfold Zds at he ⊢;simp only at he ⊢;split
 · exact Zakl hm
 · rename_i k1;rw [Yab k1] at he;split
   · exact Zalz hm
   · rename_i k2;rw [Yab k2] at he;split
     · exact Zsx hm
     · rename_i k3;rw [Yab k3] at he;split
       · exact Zsx hm
       · rename_i k4;rw [Yab k4] at he;split
         · rename_i k5;rw [Yan k5] at he;exact Zamu hm he
         · rename_i k5;rw [Yab k5] at he;split
           · rename_i k6;rw [Yan k6] at he;exact Zaff hm he
           · rename_i k6;rw [Yab k6] at he;split
             · rename_i k7;rw [Yan k7] at he;exact Zahe he
             · split
               · split
                 · exact Zbp
                 · simp only;cases hg : S.revs[S.revs.length - 1 - o.n.toNat]? with
                   | none => exact Zbp
                   | some r => exact h.revs r (List.mem_of_getElem? hg)
               · exact hm
theorem Zaah (o : Opp) (who : Int) : Step t S (doS S o who) := by
 unfold doS;split
 · exact Zaiy h _
 · split
   · exact Zdv h _ _
   · rename_i hw;have hk : who.toNat < 3 := by omega
     split
     · exact Zdv h _ _
     · split
       · exact Zajo h _ hk
       · split
         · exact Zdv h _ _
         · split
           · exact Zdv h _ _
           · split
             · exact Zaal h hk _
             · split
               · rename_i he;exact Zgh (h.setSes hk (h.base _ hk) (Zafo h hk o he)) (by unfold Zay; rw [(Zbo S who.toNat _).2.1]) _
               · exact Zdv h _ _
end
end Edt
namespace Go.Proofs.Zq
open Tryz
open Go Go.RowKit Go.Sort Tre Lx Prs Lns Edt Sch
theorem PlC.setClock {w : World} {C : Array Value} {S : Ps} (h : PlC w C S) (l : Int) : PlC w (C.setIfInBounds 12 (.int .i64 l)) { S with clock := l } := by
 have hs := h.size
 have g : ∀ j, (C.setIfInBounds 12 (.int .i64 l))[j]? = if j = 12 then some (.int .i64 l) else C[j]? := fun j => by
  rw [Ycq];by_cases e : j = 12
  · rw [Yan e.symm, Yan (by omega), Yan e]
  · rw [Yab (Ne.symm e), Yab e]
 refine ⟨by simp [hs], ?_, ?_, fun j hj => ?_, fun j hj => ?_, fun j hj => ?_, ?_, ?_, ?_, ?_⟩
 · rw [g, Yab (by omega)]; exact h.run
 · rw [g, Yab (by omega)]; exact h.revs
 · rw [g, Yab (by omega)]; exact h.opn j hj
 · rw [g, Yab (by omega)]; exact h.base j hj
 · rw [g, Yab (by omega)]; exact h.mine j hj
 · rw [g, Yab (by omega)]; exact h.lock
 · rw [g, Yan rfl]
 · rw [g, Yab (by omega)]; exact h.dead
 · rw [g, Yab (by omega)]; exact h.back
theorem Zasc (C : Array Value) (S : Ps) (n : Int) (w : World) (hP : PlC w C S) (hck : 0 ≤ S.clock ∧ S.clock ≤ 2147483647) (hnn : -9223372036854775808 ≤ n ∧ n ≤ 9223372036854775807) (h5 : S.revs.length ≤ 5) (hl : 0 ≤ Zay S ∧ Zay S ≤ 1000000000) :
 Calls prog 14 #[.agg C, .int .i64 n] w (Zdk (Zlk S n) w) := by
 have hcs := hP.size;obtain ⟨wp, hwp⟩ : ∃ wp, w.alloc (.cells C 31) = wp := ⟨_, rfl⟩;obtain ⟨wq, hwq⟩ : ∃ wq, wp.alloc (.cells #[.slice none 0 0, .slice none 0 0, .bool false, .slice none 0 0, .slice none 0 0, .bool false, .slice none 0 0, .slice none 0 0, .bool false, .slice none 0 0, .slice none 0 0, .int .i64 0, .int .i64 0, .int .i64 0, .slice none 0 0] 31) = wq := ⟨_, rfl⟩;obtain ⟨wr, hwr⟩ : ∃ wr, wq.alloc (.cells #[.int .i64 0, .int .i64 0] 38) = wr := ⟨_, rfl⟩;have hs1 : w.heap.size < wp.heap.size := by rw [← hwp]; simp
 have hs2 : wp.heap.size < wq.heap.size := by rw [← hwq]; simp
 have hs3 : wq.heap.size < wr.heap.size := by rw [← hwr]; simp
 have Bp : Bl wr w.heap.size C 31 := by rw [← hwr, ← hwq, ← hwp]; exact ((Bl.new _ _ _).alloc _).alloc _
 have Bq : Bl wr wp.heap.size #[.slice none 0 0, .slice none 0 0, .bool false, .slice none 0 0, .slice none 0 0, .bool false, .slice none 0 0, .slice none 0 0, .bool false, .slice none 0 0, .slice none 0 0, .int .i64 0, .int .i64 0, .int .i64 0, .slice none 0 0] 31 := by rw [← hwr, ← hwq]; exact (Bl.new _ _ _).alloc _
 have Br : Bl wr wq.heap.size #[.int .i64 0, .int .i64 0] 38 := by rw [← hwr]; exact Bl.new _ _ _
 have HBs : Hid (Below w.heap.size w wr) := by
  show Below _ _ _;rw [← hwr, ← hwq, ← hwp];refine Below.alloc (Below.alloc (Below.alloc (Yac _ _) (Yaf _) _) ?_ _) ?_ _ <;> simp <;> omega
 have HP : Hid (∀ W, Below w.heap.size w W → PlC W C S) := fun W hb => hP.below hb
 have hne : wq.heap.size ≠ wp.heap.size := by omega
 have hge1 : w.heap.size ≤ wp.heap.size := by omega
 have hge2 : w.heap.size ≤ wq.heap.size := by omega
 have hn1 : wp.heap.size ≠ w.heap.size := by omega
 have hn2 : wq.heap.size ≠ w.heap.size := by omega
 obtain ⟨z, hz0⟩ : ∃ z, Zlk S n = z := ⟨_, rfl⟩;rw [hz0];have hz := Zhd hz0;have px : wr.cell? ⟨w.heap.size, 12, none⟩ = some (.int .i64 S.clock) := (Bp.cell _).trans hP.clock;have hwm : IntKind.i64.wrap (2147483647 - S.clock) = 2147483647 - S.clock := by rw [IntKind.wrap_i64]; omega
 clear hz0;by_cases hn0 : n < 0
 · have HZ : Hid (z = (S, 1, 0)) := by
    show z = _;rw [← hz.out];unfold Zlk;rw [Yan (.inl hn0)]
   go_enter func14, ntmps14;go_upto_region 2 with fail
   have hpc : ∀ W, Below w.heap.size w W → PlC W C S := fun W hb' => HP.out W hb'
   refine Zbf (C := C) (R := #[.int .i64 1, .int .i64 0]) Bp (hpc _ HBs.out).size (hpc _ HBs.out).one Bq rfl Br rfl rfl rfl hne (by rfl) (by go_simp) (by rfl) (by rfl) (by rfl) (by rfl) ?_
   intro W' _ _ hbw hq' hr';have hb' := hbw w.heap.size hge1 hge2 HBs.out;have hpw := hpc _ hb';try simp only [Act.put, Yaa, Yah, Yai]
   go_wp2_with fail;refine bodyPost_ret (Zco results14 (by rfl) (by rfl) hq' hpw.size hr' rfl) rfl ?_
   unfold Zdk;rw [HZ.out];exact ⟨⟨_, rfl, hpw.plR⟩, hb'⟩
 by_cases hb1 : 2147483647 - S.clock < n
 · have HZ : Hid (z = (S, 1, 0)) := by
    show z = _;rw [← hz.out];unfold Zlk;rw [Yan (.inr hb1)]
   go_enter func14, ntmps14;go_upto_region 2 with fail
   have hpc : ∀ W, Below w.heap.size w W → PlC W C S := fun W hb' => HP.out W hb'
   refine Zbf (C := C) (R := #[.int .i64 1, .int .i64 0]) Bp (hpc _ HBs.out).size (hpc _ HBs.out).one Bq rfl Br rfl rfl rfl hne (by rfl) (by go_simp) (by rfl) (by rfl) (by rfl) (by rfl) ?_
   intro W' _ _ hbw hq' hr';have hb' := hbw w.heap.size hge1 hge2 HBs.out;have hpw := hpc _ hb';try simp only [Act.put, Yaa, Yah, Yai]
   go_wp2_with fail;refine bodyPost_ret (Zco results14 (by rfl) (by rfl) hq' hpw.size hr' rfl) rfl ?_
   unfold Zdk;rw [HZ.out];exact ⟨⟨_, rfl, hpw.plR⟩, hb'⟩
 have hnb : ¬ (n < 0 ∨ 2147483647 - S.clock < n) := fun h => h.elim hn0 hb1
 have HNB := Zhd hnb;have hwc : IntKind.i64.wrap (S.clock + n) = S.clock + n := by rw [IntKind.wrap_i64]; omega
 have pf : ∀ j, wr.frozen? ⟨w.heap.size, j, none⟩ = false := Bp.froz;clear hnb;obtain ⟨w7, hw7⟩ : ∃ x, wr.setCell ⟨w.heap.size, 12, none⟩ (.int .i64 (S.clock + n)) = x := ⟨_, rfl⟩;have B7p : Bl w7 w.heap.size (C.setIfInBounds 12 (.int .i64 (S.clock + n))) 31 := by rw [← hw7]; exact Bp.set _ _
 have B7q : Bl w7 wp.heap.size #[.slice none 0 0, .slice none 0 0, .bool false, .slice none 0 0, .slice none 0 0, .bool false, .slice none 0 0, .slice none 0 0, .bool false, .slice none 0 0, .slice none 0 0, .int .i64 0, .int .i64 0, .int .i64 0, .slice none 0 0] 31 := by rw [← hw7]; exact Bq.other hn1 _
 have B7r : Bl w7 wq.heap.size #[.int .i64 0, .int .i64 0] 38 := by rw [← hw7]; exact Br.other hn2 _
 have HB7 : Hid (Below w.heap.size w w7) := by show Below _ _ _; rw [← hw7]; exact HBs.out.setCell (p := ⟨_, _, none⟩) (Yaf _) _
 have HP7 : Hid (∀ W, Below w.heap.size w W → PlC W (C.setIfInBounds 12 (.int .i64 (S.clock + n))) { S with clock := S.clock + n }) := fun W hb => (HP.out W hb).setClock _
 have pd : w7.cell? ⟨w.heap.size, 13, none⟩ = some (.int .i64 S.dead) := (B7p.cell _).trans (HP7.out _ HB7.out).dead;have pc : w7.cell? ⟨w.heap.size, 12, none⟩ = some (.int .i64 (S.clock + n)) := (B7p.cell _).trans (HP7.out _ HB7.out).clock;obtain ⟨vb, eb, hlb⟩ := (HP7.out _ HB7.out).back;obtain ⟨At, ct, rfl, -⟩ := id hlb;have pb : w7.cell? ⟨w.heap.size, 14, none⟩ = some (.slice At S.back.length ct) := (B7p.cell _).trans eb;have pg : ∀ j, w7.frozen? ⟨w.heap.size, j, none⟩ = false := B7p.froz
 have HLB : Hid (∀ W, Below w.heap.size w W → Lr W (.slice At S.back.length ct) S.back) := by
  obtain ⟨vb2, eb2, hlb2⟩ := hP.back
  have : some vb2 = some (.slice At S.back.length ct) := by
   rw [← eb2, ← eb, Array.getElem?_setIfInBounds_ne (by decide)]
  injection this with this
  subst this;exact fun W hb => hlb2.below hb
 clear eb hlb;have HH5 := Zhd h5;have HHL := Zhd hl;clear h5 hl hck hnn;by_cases d0 : S.dead = 0
 · have HZ : Hid (z = ({ S with clock := S.clock + n }, 0, 0)) := by
    show z = _;rw [← hz.out];unfold Zlk;rw [Yab HNB.out, Yan (.inl d0)]
   have hd0 : (S.dead == 0) = true := by rw [d0]; rfl
   clear d0;go_enter func14, ntmps14;go_upto_region 5 with fail
   have hpc : ∀ W, Below w.heap.size w W → PlC W (C.setIfInBounds 12 (.int .i64 (S.clock + n))) { S with clock := S.clock + n } := fun W hb' => HP7.out W hb'
   refine Zbf (C := (C.setIfInBounds 12 (.int .i64 (S.clock + n)))) (R := #[.int .i64 0, .int .i64 0]) B7p (hpc _ HB7.out).size (hpc _ HB7.out).one B7q rfl B7r rfl rfl rfl hne (by rfl) (by go_simp) (by rfl) (by rfl) (by rfl) (by rfl) ?_
   intro W' _ _ hbw hq' hr';have hb' := hbw w.heap.size hge1 hge2 HB7.out;have hpw := hpc _ hb';try simp only [Act.put, Yaa, Yah, Yai]
   go_wp2_with fail;refine bodyPost_ret (Zco results14 (by rfl) (by rfl) hq' hpw.size hr' rfl) rfl ?_
   unfold Zdk;rw [HZ.out];exact ⟨⟨_, rfl, hpw.plR⟩, hb'⟩
 have hd0 : (S.dead == 0) = false := by rw [Yak]; exact d0
 by_cases d1 : S.clock + n < S.dead
 · have HZ : Hid (z = ({ S with clock := S.clock + n }, 0, 0)) := by
    show z = _;rw [← hz.out];unfold Zlk;rw [Yab HNB.out, Yan (.inr d1)]
   clear d0;go_enter func14, ntmps14;go_upto_region 5 with fail
   have hpc : ∀ W, Below w.heap.size w W → PlC W (C.setIfInBounds 12 (.int .i64 (S.clock + n))) { S with clock := S.clock + n } := fun W hb' => HP7.out W hb'
   refine Zbf (C := (C.setIfInBounds 12 (.int .i64 (S.clock + n)))) (R := #[.int .i64 0, .int .i64 0]) B7p (hpc _ HB7.out).size (hpc _ HB7.out).one B7q rfl B7r rfl rfl rfl hne (by rfl) (by go_simp) (by rfl) (by rfl) (by rfl) (by rfl) ?_
   intro W' _ _ hbw hq' hr';have hb' := hbw w.heap.size hge1 hge2 HB7.out;have hpw := hpc _ hb';try simp only [Act.put, Yaa, Yah, Yai]
   go_wp2_with fail;refine bodyPost_ret (Zco results14 (by rfl) (by rfl) hq' hpw.size hr' rfl) rfl ?_
   unfold Zdk;rw [HZ.out];exact ⟨⟨_, rfl, hpw.plR⟩, hb'⟩
 have HZ : Hid (z = (Zdg (Zpf S n) S.back, 0, Zay (Zdg (Zpf S n) S.back))) := by
  show z = _;rw [← hz.out];unfold Zlk;rw [Yab HNB.out, Yab (fun h => h.elim d0 d1)]
 clear d0;obtain ⟨w8, hw8⟩ : ∃ x, (w7.setCell ⟨w.heap.size, 13, none⟩ (.int .i64 0)).setCell ⟨w.heap.size, 14, none⟩ (.slice none 0 0) = x := ⟨_, rfl⟩;have HB' : Hid (Bl w8 w.heap.size (((C.setIfInBounds 12 (.int .i64 (S.clock + n))).setIfInBounds 13 (.int .i64 0)).setIfInBounds 14 (.slice none 0 0)) 31) := by show Bl _ _ _ _; rw [← hw8]; exact (B7p.set _ _).set _ _
 have HQ' : Hid (Bl w8 wp.heap.size #[.slice none 0 0, .slice none 0 0, .bool false, .slice none 0 0, .slice none 0 0, .bool false, .slice none 0 0, .slice none 0 0, .bool false, .slice none 0 0, .slice none 0 0, .int .i64 0, .int .i64 0, .int .i64 0, .slice none 0 0] 31) := by show Bl _ _ _ _; rw [← hw8]; exact (B7q.other hn1 _).other hn1 _
 have HR' : Hid (Bl w8 wq.heap.size #[.int .i64 0, .int .i64 0] 38) := by show Bl _ _ _ _; rw [← hw8]; exact (B7r.other hn2 _).other hn2 _
 have HBW : Hid (Below w.heap.size w w8) := by show Below _ _ _; rw [← hw8]; exact (HB7.out.setCell (p := ⟨_, _, none⟩) (Yaf _) _).setCell (p := ⟨_, _, none⟩) (Yaf _) _
 have hPC : PlC w8 (((C.setIfInBounds 12 (.int .i64 (S.clock + n))).setIfInBounds 13 (.int .i64 0)).setIfInBounds 14 (.slice none 0 0)) (Zpf S n) := ((HP7.out _ HBW.out).setDead 0).setBack _ [] (Zcs _);have hlt := HLB.out _ HBW.out;have hC's := hPC.size;have HM := Zhd (Zyp _ (Zpf S n) At ct S.back _ hPC hlt HH5.out HHL.out)
 have h5m : (Zdg (Zpf S n) S.back).revs.length ≤ 5 := by
  have := HH5.out;show ((S.revs ++ [(Zay (Zpf S n) + 1, S.back)]).drop (S.revs.length + 1 - 5)).length ≤ 5;rw [Yam, Yaj];show S.revs.length + 1 - _ ≤ 5;omega
 have hB'lt := HB'.out.lt;have hQ'lt := HQ'.out.lt;have hR'lt := HR'.out.lt;have HPC' := HBW;have HO' := HBW;obtain ⟨C', hC'⟩ : ∃ x, (((C.setIfInBounds 12 (.int .i64 (S.clock + n))).setIfInBounds 13 (.int .i64 0)).setIfInBounds 14 (.slice none 0 0)) = x := ⟨_, rfl⟩;rw [hC'] at HB' hPC hC's HM;obtain ⟨S', hS'⟩ : ∃ x, Zpf S n = x := ⟨_, rfl⟩;rw [hS'] at hPC HM h5m HZ;obtain ⟨T, hT⟩ : ∃ x, S.back = x := ⟨_, rfl⟩;rw [hT] at pb HM h5m HZ hlt;clear hC' hS' hT HLB HH5 HHL HP7 HB7;go_enter func14, ntmps14;go_upto_region 8 with fail
 refine wp_region_lit ?_;refine wpList_load_mid rfl 31 _ rfl w.heap.size 0 (by rfl) C'.toList _ HB'.out.range underlying31 rfl (by rw [Yaz, hC's]; exact Zao) ?_
 rw [show C'.toList.toArray = C' from rfl];try simp only [Act.put, Yaa, Yah, Yai]
 go_wp2_with fail;go_at_call 20;refine HM.out.mono ?_;rintro e w9 ⟨⟨C2, rfl, hP2, hA2⟩, hb9⟩;have B9p := HB'.out.below hb9;have B9q := HQ'.out.below hb9;have B9r := HR'.out.below hb9;have HB9 := Zhd (Zaa HBW.out hb9);have hC2 := hP2.size;clear HM hb9;rename_i hKx;refine hKx _ _ ?_;clear hKx;try simp only [Act.put, Yaa, Yah, Yai]
 refine wpList_store_mid rfl 31 _ _ rfl w.heap.size 0 C2 (by rfl) (by rfl) (B9p.there (by omega)) (by rw [hC2]; exact Zao) (Ybe.2 fun v hv => Ybr.1 hP2.one v (by simpa using hv)) ?_
 obtain ⟨wA, hwA⟩ : ∃ x, w9.setCells w.heap.size 0 C2.toList = x := ⟨_, rfl⟩;rw [hwA];have BAp : Bl wA w.heap.size C2 31 := by rw [← hwA]; exact B9p.sets (D := C2) (by omega)
 have BAq : Bl wA wp.heap.size #[.slice none 0 0, .slice none 0 0, .bool false, .slice none 0 0, .slice none 0 0, .bool false, .slice none 0 0, .slice none 0 0, .bool false, .slice none 0 0, .slice none 0 0, .int .i64 0, .int .i64 0, .int .i64 0, .slice none 0 0] 31 := by rw [← hwA]; exact B9q.others hn1 _
 have BAr : Bl wA wq.heap.size #[.int .i64 0, .int .i64 0] 38 := by rw [← hwA]; exact B9r.others hn2 _
 have HBA : Hid (Below w.heap.size w wA) := by show Below _ _ _; rw [← hwA]; exact Zal (Yaf _) C2.toList 0 HB9.out
 have hPA : PlC wA C2 (Zdg S' T) := by
  rw [← hwA];exact hP2.off B9p (by decide) hPC.nostr ((Off.refl _ _).setCells _ 0)
 have HL := Zhd (fun W (hb : Below wA.heap.size wA W) => Zkf C2 (Zdg S' T) W (hPA.below hb) h5m)
 have HPA : Hid (∀ W, Off wp.heap.size wA W → PlC W C2 (Zdg S' T)) := fun W ho => hPA.off BAq (by decide) rfl ho
 have h1C := hPA.one;obtain ⟨ln, hln⟩ : ∃ ln, Zay (Zdg S' T) = ln := ⟨_, rfl⟩;rw [hln] at HL HZ;clear hwA B9p B9q B9r HB9 hP2 hA2 hPC HPC' hPA HB' HQ' HR' HBW HO' hlt hln;try simp only [Act.put, Yaa, Yah, Yai]
 go_upto_region 9 with fail
 refine wp_region_noPanic ?_;refine wp_region_held_drew (S := fun W => Bl W w.heap.size C2 31) (by kernel_rfl) BAp.drew (fun hHeld => ?_)
 refine wpAnyH_take (i := 0) (v := .agg C2) rfl (by kernel_rfl) (by kernel_rfl) (by kernel_rfl) (fun _ _ _ h => h) (yieldsIf_load_mid (by rfl) 31 _ rfl w.heap.size 0 rfl C2.toList _ (fun W h => h.range) underlying31 rfl (by rw [Yaz, hC2]; exact Zao)) hHeld ?_
 try simp only [Act.put, Yaa, Yah, Yai]
 refine wpAnyH_take (i := 1) (v := .agg C2) rfl (by kernel_rfl) (by kernel_rfl) (by kernel_rfl) (fun _ _ _ h => h) (yieldsIf_load_mid (by rfl) 31 _ rfl w.heap.size 0 rfl C2.toList _ (fun W h => h.range) underlying31 rfl (by rw [Yaz, hC2]; exact Zao)) hHeld ?_
 try simp only [Act.put, Yaa, Yah, Yai]
 refine wpAnyH_ready (rs := [2]) (by kernel_rfl) (by simp) ?_
 refine AllReadyH.cons rfl (fun K hK => ?_) AllReadyH.nil
 go_simp;go_at_call 10;refine (HL.out _ (Yac _ _).drew).mono ?_;rintro e w10 ⟨rfl, hb10⟩;have B10p := BAp.drew.below hb10;have B10q := BAq.drew.below hb10;have B10r := BAr.drew.below hb10;have HBx := Zhd (Zaa (show Below wA.heap.size wA wA.drew from (Yac _ _).drew) hb10)
 have HO10 := Zhd (show Off wp.heap.size wA w10 from Off.below HBx.out)
 have HB10 := Zhd (Zaa HBA.out HBx.out);clear hb10 HL BAp BAq BAr HBx;refine hK.out _ _ B10p (fun _ => ?_)
 clear hK K;try simp only [Act.put, Yaa, Yah, Yai]
 refine wpAnyH_take (i := 3) (oi := { dst := some 45, op := .build 38 #[(1, .tmp 44)], type := 38, pos := "plane.go:161", after := #[{ on := 2, ground := .data }, { on := 4, ground := .gcOnly .lateStores }], guard := none }) (v := .agg #[.int .i64 0, .int .i64 ln]) rfl (by kernel_rfl) (by kernel_rfl) (by kernel_rfl) (fun _ _ _ h => h) (Or.inl ⟨by rfl, ?_⟩) B10p ?_
 · intro W hW;go_simp
 try simp only [Act.put, Yaa, Yah, Yai]
 refine wpAnyH_ready (rs := [4]) (by kernel_rfl) (by simp) ?_
 refine AllReadyH.cons rfl (fun K hK => ?_) AllReadyH.nil
 refine Zhg (C := #[.slice none 0 0, .slice none 0 0, .bool false, .slice none 0 0, .slice none 0 0, .bool false, .slice none 0 0, .slice none 0 0, .bool false, .slice none 0 0, .slice none 0 0, .int .i64 0, .int .i64 0, .int .i64 0, .slice none 0 0]) (D := C2) 31 rfl _ _ rfl wp.heap.size B10q hC2.symm (by rfl) (by rfl) (by rw [hC2]; exact Zao) h1C ?_
 intro w11 hw11;have B11p := B10p.others (o := 0) hn1.symm C2.toList;rw [hw11] at B11p;have B11q := B10q.sets (D := C2) hC2;rw [hw11] at B11q;have B11r := B10r.others (o := 0) hne C2.toList;rw [hw11] at B11r;have HB11 := Zhd (Zal hge1 C2.toList 0 HB10.out);have HO11 := Zhd (HO10.out.setCells C2.toList 0);rw [hw11] at HB11 HO11;refine hK.out _ _ B11p (fun _ => ?_)
 clear hK K hw11;try simp only [Act.put, Yaa, Yah, Yai]
 refine wpAnyH_ready (rs := [5]) (by kernel_rfl) (by simp) ?_
 refine AllReadyH.cons rfl (fun K hK => ?_) AllReadyH.nil
 refine Zhg (C := #[.int .i64 0, .int .i64 0]) (D := #[.int .i64 0, .int .i64 ln]) 38 rfl _ _ rfl wq.heap.size B11r rfl (by rfl) (by rfl) Zbx (by rfl) ?_
 intro w12 hw12;have B12p := B11p.others (o := 0) hn2.symm (#[.int .i64 0, .int .i64 ln] : Array Value).toList;rw [hw12] at B12p;have B12q := B11q.others (o := 0) hne.symm (#[.int .i64 0, .int .i64 ln] : Array Value).toList;rw [hw12] at B12q;have B12r := B11r.sets (D := #[.int .i64 0, .int .i64 ln]) rfl;rw [hw12] at B12r;have HB12 := Zhd (Zal hge2 (#[.int .i64 0, .int .i64 ln] : Array Value).toList 0 HB11.out);rw [hw12] at HB12
 have hP12 : PlC w12 C2 (Zdg S' T) := by
  rw [← hw12];exact (HPA.out _ HO11.out).off B11r (by decide) rfl ((Off.refl _ _).setCells _ 0)
 refine hK.out _ _ B12p (fun _ => ?_)
 clear hK K hw12;try simp only [Act.put, Yaa, Yah, Yai]
 refine wpAnyH_done (by kernel_rfl) ?_ _
 refine NoPanic.normal ?_;go_wp2_with fail;refine bodyPost_ret (Zco results14 (by rfl) (by rfl) B12q hC2 B12r rfl) rfl ?_
 unfold Zdk;rw [HZ.out];exact ⟨⟨_, rfl, hP12.plR⟩, HB12.out⟩
end Go.Proofs.Zq
