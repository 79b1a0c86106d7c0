import Derived.Maps.AppendAt
import Derived.Test.YtdamidelojccaaaGreatDoorJ38
set_option linter.unusedVariables false
set_option linter.unusedSimpArgs false
set_option maxHeartbeats 4000000
set_option maxRecDepth 100000
namespace Go.Proofs.Zq
open Tryz
open Go Go.RowKit Go.Sort Tre Lx Prs Lns Edt Sch
def zcc : Array Value := #[.slice none 0 0, .slice none 0 0, .bool false, .slice none 0 0, .slice none 0 0, .bool false, .slice none 0 0, .slice none 0 0, .bool false, .slice none 0 0, .slice none 0 0, .int .i64 0, .int .i64 0, .int .i64 0, .slice none 0 0]
theorem Zyt (f : Operand → Value) (d : Option Nat) (t : TypeId) (p : String) (e : Array Edge) (g) (W : World) : (execOp f { dst := d, op := .alloc 31, type := t, pos := p, after := e, guard := g }).run prog W = .ok (.value (.pointer (some ⟨W.heap.size, 0, none⟩))) (W.alloc (.cells zcc 31)) := by
 go_simp;rfl
theorem Zxt (f : Operand → Value) (d : Option Nat) (t : TypeId) (p : String) (e : Array Edge) (g) (W : World) : (execOp f { dst := d, op := .alloc 38, type := t, pos := p, after := e, guard := g }).run prog W = .ok (.value (.pointer (some ⟨W.heap.size, 0, none⟩))) (W.alloc (.cells #[.int .i64 0, .int .i64 0] 38)) := by
 go_simp
theorem Zew {ops : Array Oper} {o : Oper} {rest : List Oper} {a : Act} {W W' : World} {v : Value} {Q : Exit → Act → World → Prop} (hg : o.guard = none) (hx : (execOp a.eval o).run prog W = .ok (.value v) W') (h : wpList prog ops Q rest (a.put o.dst v) W') : wpList prog ops Q (o :: rest) a W := by
 refine wpList_plain hg fun K hK => ?_
 unfold Oper.wp;rw [hx];exact hK _ _ h
theorem Zaej {ops : Array Oper} {sv d1 : Nat} {t1 t2 : TypeId} {p1 p2 : String} {f1 f2 : Array Edge} {Q : Exit → Act → World → Prop} {a : Act} {W : World} {C : Array Value} (hc : C.size = 15) (h1 : C.toList.all (·.oneCell') = true)
 (e1 : (a.put (some d1) (.pointer (some ⟨W.heap.size, 0, none⟩))).eval (.tmp d1) = .pointer (some ⟨W.heap.size, 0, none⟩))
 (e2 : (a.put (some d1) (.pointer (some ⟨W.heap.size, 0, none⟩))).eval (.tmp sv) = .agg C)
 (h : ∀ W', Below W.heap.size W W' → Bl W' W.heap.size C 31 → Q .normal ((a.put (some d1) (.pointer (some ⟨W.heap.size, 0, none⟩))).put none undef) W') :
 wpList prog ops Q [{ dst := some d1, op := .alloc 31, type := t1, pos := p1, after := f1, guard := none }, { dst := none, op := .store 31 (.tmp d1) (.tmp sv), type := t2, pos := p2, after := f2, guard := none }] a W := by
 refine Zew rfl (Zyt _ _ _ _ _ _ _) ?_;have hq : Bl (W.alloc (.cells zcc 31)) W.heap.size zcc 31 := Bl.new _ _ _;have hz : zcc.size = 15 := rfl;refine wpList_store_mid rfl 31 _ _ rfl W.heap.size 0 C e1 e2 (hq.there (by omega)) (by rw [hc]; exact Zao) (Ybe.2 fun v hv => Ybr.1 h1 v (by simpa using hv)) ?_
 refine wpList_nil ?_;exact h _ (Zal (Yaf _) _ _ ((Yac _ W).alloc (Yaf _) _)) (hq.sets (D := C) (by omega))
theorem Zadj {ops : Array Oper} {sp sl sq : Nat} {t1 t2 : TypeId} {p1 p2 : String} {f1 f2 : Array Edge} {Q : Exit → Act → World → Prop} {a : Act} {W : World} {p q : Nat} {C Z : Array Value} (hp : Bl W p C 31) (hc : C.size = 15) (h1 : C.toList.all (·.oneCell') = true) (hq : Bl W q Z 31) (hz : Z.size = 15)
 (e0 : a.eval (.tmp sp) = .pointer (some ⟨p, 0, none⟩)) (e1 : (a.put (some sl) (.agg C)).eval (.tmp sq) = .pointer (some ⟨q, 0, none⟩)) (e2 : (a.put (some sl) (.agg C)).eval (.tmp sl) = .agg C)
 (h : ∀ W', Off q W W' → (∀ B, B ≤ q → ∀ {w0}, Below B w0 W → Below B w0 W') → Bl W' q C 31 → Q .normal ((a.put (some sl) (.agg C)).put none undef) W') :
 wpList prog ops Q [{ dst := some sl, op := .load 31 (.tmp sp), type := t1, pos := p1, after := f1, guard := none }, { dst := none, op := .store 31 (.tmp sq) (.tmp sl), type := t2, pos := p2, after := f2, guard := none }] a W := by
 refine wpList_load_mid rfl 31 _ rfl p 0 e0 C.toList _ hp.range underlying31 rfl (by rw [Yaz, hc]; exact Zao) ?_
 rw [show C.toList.toArray = C from rfl];refine wpList_store_mid rfl 31 _ _ rfl q 0 C e1 e2 (hq.there (by omega)) (by rw [hc]; exact Zao) (Ybe.2 fun v hv => Ybr.1 h1 v (by simpa using hv)) ?_
 refine wpList_nil ?_;exact h _ ((Off.refl _ _).setCells _ 0) (fun B b1 w0 hb => Zal b1 _ _ hb) (hq.sets (D := C) (by omega))
theorem Zati {C : Array Value} (h : C.size = 15) : ∃ a0 a1 a2 a3 a4 a5 a6 a7 a8 a9 aa ab ac ad ae, C = #[a0, a1, a2, a3, a4, a5, a6, a7, a8, a9, aa, ab, ac, ad, ae] := by
 obtain ⟨l⟩ := C
 match l, h with
 | [a0, a1, a2, a3, a4, a5, a6, a7, a8, a9, aa, ab, ac, ad, ae], _ => exact ⟨a0, a1, a2, a3, a4, a5, a6, a7, a8, a9, aa, ab, ac, ad, ae, rfl⟩
theorem Zpt {ops : Array Oper} {sv s1 s2 d4 d5 : Nat} {t1 t2 t3 t4 t5 t6 : TypeId} {p1 p2 p3 p4 p5 p6 : String} {f1 f2 f3 f4 f5 f6 : Array Edge} {Q : Exit → Act → World → Prop} {a : Act} {W : World} {C R : Array Value}
 (hc : C.size = 15) (h1 : C.toList.all (·.oneCell') = true) (hR : R.size = 2) (hR1 : R.toList.all (·.oneCell') = true)
 (a0 : (execOp a.eval { dst := some s1, op := .extract (.tmp sv) 0, type := t1, pos := p1, after := f1, guard := none }).run prog W = .ok (.value (.agg C)) W)
 (a9 : (execOp (a.put (some s1) (.agg C)).eval { dst := some s2, op := .extract (.tmp sv) 1, type := t2, pos := p2, after := f2, guard := none }).run prog W = .ok (.value (.agg R)) W)
 (e1 : ((((a.put (some s1) (.agg C)).put (some s2) (.agg R)).put (some d4) (.pointer (some ⟨W.heap.size, 0, none⟩))).put (some d5) (.pointer (some ⟨W.heap.size + 1, 0, none⟩))).eval (.tmp d4) = .pointer (some ⟨W.heap.size, 0, none⟩))
 (e2 : ((((a.put (some s1) (.agg C)).put (some s2) (.agg R)).put (some d4) (.pointer (some ⟨W.heap.size, 0, none⟩))).put (some d5) (.pointer (some ⟨W.heap.size + 1, 0, none⟩))).eval (.tmp s1) = .agg C)
 (e3 : (((((a.put (some s1) (.agg C)).put (some s2) (.agg R)).put (some d4) (.pointer (some ⟨W.heap.size, 0, none⟩))).put (some d5) (.pointer (some ⟨W.heap.size + 1, 0, none⟩))).put none undef).eval (.tmp d5) = .pointer (some ⟨W.heap.size + 1, 0, none⟩))
 (e4 : (((((a.put (some s1) (.agg C)).put (some s2) (.agg R)).put (some d4) (.pointer (some ⟨W.heap.size, 0, none⟩))).put (some d5) (.pointer (some ⟨W.heap.size + 1, 0, none⟩))).put none undef).eval (.tmp s2) = .agg R)
 (h : ∀ W', Below W.heap.size W W' → Bl W' W.heap.size C 31 → Bl W' (W.heap.size + 1) R 38 → Q .normal ((((((a.put (some s1) (.agg C)).put (some s2) (.agg R)).put (some d4) (.pointer (some ⟨W.heap.size, 0, none⟩))).put (some d5) (.pointer (some ⟨W.heap.size + 1, 0, none⟩))).put none undef).put none undef) W') :
 wpList prog ops Q [{ dst := some s1, op := .extract (.tmp sv) 0, type := t1, pos := p1, after := f1, guard := none }, { dst := some s2, op := .extract (.tmp sv) 1, type := t2, pos := p2, after := f2, guard := none }, { dst := some d4, op := .alloc 31, type := t3, pos := p3, after := f3, guard := none }, { dst := some d5, op := .alloc 38, type := t4, pos := p4, after := f4, guard := none }, { dst := none, op := .store 31 (.tmp d4) (.tmp s1), type := t5, pos := p5, after := f5, guard := none }, { dst := none, op := .store 38 (.tmp d5) (.tmp s2), type := t6, pos := p6, after := f6, guard := none }] a W := by
 refine Zew rfl a0 ?_;refine Zew rfl a9 ?_;refine Zew rfl (Zyt _ _ _ _ _ _ _) ?_;refine Zew rfl (Zxt _ _ _ _ _ _ _) ?_;have hs : (W.alloc (.cells zcc 31)).heap.size = W.heap.size + 1 := by simp
 rw [hs];have hq : Bl ((W.alloc (.cells zcc 31)).alloc (.cells #[.int .i64 0, .int .i64 0] 38)) W.heap.size zcc 31 := (Bl.new _ _ _).alloc _;have hr : Bl ((W.alloc (.cells zcc 31)).alloc (.cells #[.int .i64 0, .int .i64 0] 38)) (W.heap.size + 1) #[.int .i64 0, .int .i64 0] 38 := hs ▸ Bl.new _ _ _;have hz : zcc.size = 15 := rfl;refine wpList_store_mid rfl 31 _ _ rfl W.heap.size 0 C e1 e2 (hq.there (by omega)) (by rw [hc]; exact Zao) (Ybe.2 fun v hv => Ybr.1 h1 v (by simpa using hv)) ?_
 have hr1 := hr.others (o := 0) (show W.heap.size + 1 ≠ W.heap.size by omega) C.toList
 have hq1 := hq.sets (D := C) (by omega)
 refine wpList_store_mid rfl 38 _ _ rfl (W.heap.size + 1) 0 R e3 e4 (hr1.there (by show R.size ≤ 2; omega)) (by rw [hR]; exact Zbx) (Ybe.2 fun v hv => Ybr.1 hR1 v (by simpa using hv)) ?_
 refine wpList_nil ?_;refine h _ (Zal (by omega) _ _ (Zal (Yaf _) _ _ (((Yac _ W).alloc (Yaf _) _).alloc (by simp) _))) (hq1.others (by omega) _) (hr1.sets (by show R.size = 2; omega))
theorem Zaok {ops : Array Oper} {sv s1 s2 q d5 sq : Nat} {t1 t2 t4 t5 t6 : TypeId} {p1 p2 p4 p5 p6 : String} {f1 f2 f4 f5 f6 : Array Edge} {Q : Exit → Act → World → Prop} {a : Act} {W : World} {C Z R : Array Value}
 (hc : C.size = 15) (h1 : C.toList.all (·.oneCell') = true) (hR : R.size = 2) (hR1 : R.toList.all (·.oneCell') = true) (hq : Bl W q Z 31) (hz : Z.size = 15)
 (a0 : (execOp a.eval { dst := some s1, op := .extract (.tmp sv) 0, type := t1, pos := p1, after := f1, guard := none }).run prog W = .ok (.value (.agg C)) W)
 (a9 : (execOp (a.put (some s1) (.agg C)).eval { dst := some s2, op := .extract (.tmp sv) 1, type := t2, pos := p2, after := f2, guard := none }).run prog W = .ok (.value (.agg R)) W)
 (e1 : (((a.put (some s1) (.agg C)).put (some s2) (.agg R)).put (some d5) (.pointer (some ⟨W.heap.size, 0, none⟩))).eval (.tmp sq) = .pointer (some ⟨q, 0, none⟩))
 (e2 : (((a.put (some s1) (.agg C)).put (some s2) (.agg R)).put (some d5) (.pointer (some ⟨W.heap.size, 0, none⟩))).eval (.tmp s1) = .agg C)
 (e3 : ((((a.put (some s1) (.agg C)).put (some s2) (.agg R)).put (some d5) (.pointer (some ⟨W.heap.size, 0, none⟩))).put none undef).eval (.tmp d5) = .pointer (some ⟨W.heap.size, 0, none⟩))
 (e4 : ((((a.put (some s1) (.agg C)).put (some s2) (.agg R)).put (some d5) (.pointer (some ⟨W.heap.size, 0, none⟩))).put none undef).eval (.tmp s2) = .agg R)
 (h : ∀ W', Off q W W' → (∀ B, B ≤ q → B ≤ W.heap.size → ∀ {w0}, Below B w0 W → Below B w0 W') → Bl W' q C 31 → Bl W' W.heap.size R 38 → Q .normal (((((a.put (some s1) (.agg C)).put (some s2) (.agg R)).put (some d5) (.pointer (some ⟨W.heap.size, 0, none⟩))).put none undef).put none undef) W') :
 wpList prog ops Q [{ dst := some s1, op := .extract (.tmp sv) 0, type := t1, pos := p1, after := f1, guard := none }, { dst := some s2, op := .extract (.tmp sv) 1, type := t2, pos := p2, after := f2, guard := none }, { dst := some d5, op := .alloc 38, type := t4, pos := p4, after := f4, guard := none }, { dst := none, op := .store 31 (.tmp sq) (.tmp s1), type := t5, pos := p5, after := f5, guard := none }, { dst := none, op := .store 38 (.tmp d5) (.tmp s2), type := t6, pos := p6, after := f6, guard := none }] a W := by
 refine Zew rfl a0 ?_;refine Zew rfl a9 ?_;refine Zew rfl (Zxt _ _ _ _ _ _ _) ?_;have hlt := hq.lt;have hq0 : Bl (W.alloc (.cells #[.int .i64 0, .int .i64 0] 38)) q Z 31 := hq.alloc _;have hr : Bl (W.alloc (.cells #[.int .i64 0, .int .i64 0] 38)) W.heap.size #[.int .i64 0, .int .i64 0] 38 := Bl.new _ _ _;refine wpList_store_mid rfl 31 _ _ rfl q 0 C e1 e2 (hq0.there (by omega)) (by rw [hc]; exact Zao) (Ybe.2 fun v hv => Ybr.1 h1 v (by simpa using hv)) ?_
 have hr1 := hr.others (o := 0) (show W.heap.size ≠ q by omega) C.toList
 have hq1 := hq0.sets (D := C) (by omega)
 refine wpList_store_mid rfl 38 _ _ rfl W.heap.size 0 R e3 e4 (hr1.there (by show R.size ≤ 2; omega)) (by rw [hR]; exact Zbx) (Ybe.2 fun v hv => Ybr.1 hR1 v (by simpa using hv)) ?_
 refine wpList_nil ?_;have o1 : Off q W ((W.alloc (.cells #[.int .i64 0, .int .i64 0] 38)).setCells q 0 C.toList) := Off.setCells C.toList 0 (Off.below ((Yac _ W).alloc (Yaf _) _));have o2 := (Off.refl W.heap.size ((W.alloc (.cells #[.int .i64 0, .int .i64 0] 38)).setCells q 0 C.toList)).setCells R.toList 0;have o3 : W.heap.size ≤ ((W.alloc (.cells #[.int .i64 0, .int .i64 0] 38)).setCells q 0 C.toList).heap.size := o1.1;exact h _ ⟨Yas o1.1 o2.1, fun b hb hl => (o2.2 b (by omega) (Ybx hl o3)).trans (o1.2 b hb hl)⟩ (fun B b1 b2 w0 hb => Zal b2 _ _ (Zal b1 _ _ (hb.alloc b2 _))) (hq1.others (by omega) _) (hr1.sets (by show R.size = 2; omega))
end Go.Proofs.Zq
namespace Edt
open Go Go.Lib Tre Sch Lns
structure Chg where
 kind : Int
 path : List ByteArray
 mark : Int
def Znv (a b : List Line) : Nat → Nat → List Chg
 | 0, _ => []
 | f + 1, i => if i < a.length then match Zar b (pa a i) with
     | none => ⟨1, pa a i, 0⟩ :: Znv a b f (endB a i)
     | some _ => Znv a b f (i + 1)
   else []
def Zqn (a b : List Line) : List Chg := Znv a b a.length 0
def Zato (a b : List Line) (i : Nat) : List Chg := match Zar a (pa b i) with
 | none => [⟨2, pa b i, (Zdq b i).mark⟩]
 | some _ => []
def Zavp (a b : List Line) (i : Nat) : List Chg := match Zar a (pa b i) with
 | none => []
 | some k => if (Zdq a k).mark = (Zdq b i).mark then [] else [⟨3, pa b i, (Zdq b i).mark⟩]
def Zqt (a b : List Line) (k : Nat) : List Chg := (List.range k).flatMap (Zato a b)
def Zoq (a b : List Line) (k : Nat) : List Chg := (List.range k).flatMap (Zavp a b)
def Zaqy (a b : List Line) : List Chg := Zqn a b ++ Zqt a b b.length ++ Zoq a b b.length
theorem Zjf {a b : List Line} (f : Nat) {i : Nat} (h : a.length ≤ i) : Znv a b f i = [] := by
 cases f with
 | zero => rfl
 | succ f => unfold Znv; rw [Yab (by omega)]
theorem Zky {a b : List Line} : ∀ (f g i : Nat), a.length - i ≤ f → a.length - i ≤ g → Znv a b f i = Znv a b g i
 | 0, g, i, h, _ => by rw [Zjf 0 (by omega), Zjf g (by omega)]
 | f + 1, 0, i, _, h => by rw [Zjf 0 (by omega), Zjf (f + 1) (by omega)]
 | f + 1, g + 1, i, h1, h2 => by
   unfold Znv;by_cases hi : i < a.length
   · rw [Yan hi, Yan hi];have := Zbb a i hi;cases Zar b (pa a i) with
     | none => simp only; rw [Zky f g (endB a i) (by omega) (by omega)]
     | some k => exact Zky f g (i + 1) (by omega) (by omega)
   · rw [Yab hi, Yab hi]
def Zka (a b : List Line) (i : Nat) : List Chg := Znv a b (a.length - i) i
theorem Zanj {a b : List Line} {i : Nat} (hi : i < a.length) (h : Zar b (pa a i) = none) : Zka a b i = ⟨1, pa a i, 0⟩ :: Zka a b (endB a i) := by
 have := Zbb a i hi;unfold Zka;obtain ⟨m, hm⟩ : ∃ m, a.length - i = m + 1 := ⟨a.length - i - 1, by omega⟩
 rw [hm]
 conv => lhs; unfold Znv
 rw [Yan hi, h];simp only;rw [Zky m (a.length - endB a i) (endB a i) (by omega) (Yaf _)]
theorem Zamt {a b : List Line} {i k : Nat} (hi : i < a.length) (h : Zar b (pa a i) = some k) : Zka a b i = Zka a b (i + 1) := by
 unfold Zka;obtain ⟨m, hm⟩ : ∃ m, a.length - i = m + 1 := ⟨a.length - i - 1, by omega⟩
 rw [hm]
 conv => lhs; unfold Znv
 rw [Yan hi, h];simp only;exact Zky m (a.length - (i + 1)) (i + 1) (by omega) (Yaf _)
theorem Zaoo {a b : List Line} {i : Nat} (h : a.length ≤ i) : Zka a b i = [] := Zjf _ h
theorem Zwk {a b : List Line} : ∀ (f i : Nat), (Znv a b f i).length ≤ a.length - i
 | 0, i => Yav _
 | f + 1, i => by
   unfold Znv;by_cases hi : i < a.length
   · rw [Yan hi];have := Zbb a i hi;cases Zar b (pa a i) with
     | none => have h := Zwk (a := a) (b := b) f (endB a i); simp only [Ybi]; omega
     | some k => have h := Zwk (a := a) (b := b) f (i + 1); simp only; omega
   · rw [Yab hi]; exact Yav _
theorem Zajl (a b : List Line) : Zqn a b = Zka a b 0 := rfl
theorem Zajh (a b : List Line) (k : Nat) : Zqt a b (k + 1) = Zqt a b k ++ Zato a b k := by unfold Zqt; rw [Ydn, Yck]; simp
theorem Zahv (a b : List Line) (k : Nat) : Zoq a b (k + 1) = Zoq a b k ++ Zavp a b k := by unfold Zoq; rw [Ydn, Yck]; simp
end Edt
namespace Go.Proofs.Zq
open Tryz
open Go Go.RowKit Go.Sort Tre Lx Prs Lns Edt Sch
abbrev CV := Int × PV × Int
def CV.chg (x : CV) : Chg := ⟨x.1, x.2.1.2, x.2.2⟩
def cvc (Q : List CV) : List Value := Q.flatMap fun q => [.int .i64 q.1, q.2.1.1, .int .i64 q.2.2]
theorem Zahx (Q R : List CV) : cvc (Q ++ R) = cvc Q ++ cvc R := by unfold cvc; rw [Yck]
theorem Zaua (q : CV) : cvc [q] = [.int .i64 q.1, q.2.1.1, .int .i64 q.2.2] := rfl
def CRow (w : World) (base : Nat) (v : Value) (Q : List CV) : Prop := w.ownsRow base 86 3 v Q.length (cvc Q) ∧ ∀ x ∈ Q, POwn w x.2.1
theorem CRow.below {w w' : World} {base : Nat} {v : Value} {Q : List CV} (h : CRow w base v Q) (hb : Below w.heap.size w w') : CRow w' base v Q := ⟨Zah h.1 hb, fun x hx => (h.2 x hx).below hb⟩
theorem Zhv {w w' : World} {x : PV} (h : POwn w x) (k : Zbl 86 w w') : POwn w' x := k.own (by decide) h
theorem Zgu (w : World) (base : Nat) : CRow w base (.slice none 0 0) [] := ⟨World.ownsRow_nil _ _ _ _, fun x hx => by cases hx⟩
theorem Zpx {w w' : World} {base : Nat} {v' : Value} {Q : List CV} {x : CV} (h : w'.ownsRow base 86 3 v' (Q.length + 1) (cvc Q ++ [.int .i64 x.1, x.2.1.1, .int .i64 x.2.2])) (hq : ∀ y ∈ Q, POwn w y.2.1) (hx : POwn w x.2.1) (k : Zbl 86 w w') : CRow w' base v' (Q ++ [x]) := by
 refine ⟨by rw [Zahx, Zaua]; simpa using h, fun y hy => ?_⟩
 rcases Ybm.1 hy with hy | hy
 · exact Zhv (hq y hy) k
 · rw [Yce] at hy;rw [hy]; exact Zhv hx k
def Apt (u v : Value) : Prop := ∀ q, u.ownBlock = some q → v.ownBlock ≠ some q
theorem Apt.symm {u v : Value} (h : Apt u v) : Apt v u := fun q h1 h2 => h q h2 h1
theorem Zatz (v : Value) : Apt v (.slice none 0 0) := fun q _ h => by cases h
theorem Zalt {P : Program} {ops : Array Oper} {rest : List Oper} {o : Oper} {a : Act} {Q : Exit → Act → World → Prop} (hgd : o.guard = none) (s x : Operand) (t : TypeId)
 (ho : o.op = .call { callee := .builtin .append, args := #[s, x], argTypes := #[t, t] })
 (w0 wr : World) (e : TypeId) (i : TypeInfo) (z : Value) (size bytes : Nat) (ht : P.underlying t = some (.slice e)) (hi : P.info? e = some i) (hz : i.zero = some z)
 (hsize : i.size = size) (hby : i.bytes = bytes) (hzs : z.cells.size = size) (hsz : 0 < size) (hb64 : bytes ≤ 64)
 {v : Value} {n : Nat} {xs : List Value} (hown : wr.ownsRow w0.heap.size e size v n xs) (hb : Below w0.heap.size w0 wr) (hs : a.eval s = v)
 (m c : Nat) (news : List Value) (hx : a.eval x = .slice (some ⟨wr.heap.size, 0, none⟩) m c) (hl : news.length = m * size) (h1 : ∀ u ∈ news, u.oneCell' = true)
 (hN : n + m ≤ 1000000000) {u : Value} {k n2 : Nat} {ys : List Value} (ho2 : wr.ownsRow w0.heap.size e k u n2 ys) (hap : Apt u v)
 (h : ∀ v' w', w'.ownsRow w0.heap.size e size v' (n + m) (xs ++ news) → Below w0.heap.size w0 w' → Zbl e wr w' → w'.ownsRow w0.heap.size e k u n2 ys → Apt u v' → wpList P ops Q rest (a.put o.dst v') w') :
 wpList P ops Q (o :: rest) a (wr.alloc (.cells news.toArray e)) := by
 have hbytes : (n + m) * bytes ≤ 140737488355328 := Yas (Ydm hN hb64) (by decide)
 refine wpList_append_own_at _ hgd s x t ho w0.heap.size e i z size bytes ht hi hz hsize hby hzs hsz v n xs hs (hown.alloc _) ⟨wr.heap.size, 0, none⟩ m c news hx hl ?_ h1 (by unfold maxLen; omega) hbytes (Yas hb.size (by simp)) ?_
 · intro j u hu;rw [Zae, Ybf, World.cell?_alloc_at _ _ _ _ rfl];simpa using hu
 · intro v' w' hown' hg _ hat;refine h v' w' hown' ((hb.alloc hb.size _).grown hg (Yas hb.size (by simp)) fun q hq => (hown.lt q hq).1) (((Zbl.refl e wr).alloc _).trans (Zbl.grown (hown.alloc _) hg)) ?_ ?_
   · refine ⟨ho2.1, ho2.2.imp id fun ⟨g, cap, cur, f1, f2, f3, f4⟩ => ⟨g, cap, cur, f1, f2, ?_, f4⟩⟩
     have hlt := (Ybc.1 f3).1;refine (hg.block g (by simp; omega) fun e2 => ?_).trans ((heap_alloc_old (r := g) wr _ hlt).trans f3)
     exact hap g (by rw [f1]; rfl) e2.symm
   · intro q hq hv;rcases hat with hat | hat
     · exact hap q hq (by rw [← hat]; exact hv)
     · rw [hat] at hv;injection hv with hv
       have := (ho2.lt q hq).2;simp at hv;omega
theorem Zatx {P : Program} {ops : Array Oper} {rest : List Oper} {o : Oper} {a : Act} {Q : Exit → Act → World → Prop} (hgd : o.guard = none) (s x : Operand) (t : TypeId)
 (ho : o.op = .call { callee := .builtin .append, args := #[s, x], argTypes := #[t, t] })
 (B : Nat) (wr : World) (e : TypeId) (i : TypeInfo) (z : Value) (size bytes : Nat) (ht : P.underlying t = some (.slice e)) (hi : P.info? e = some i) (hz : i.zero = some z)
 (hsize : i.size = size) (hby : i.bytes = bytes) (hzs : z.cells.size = size) (hsz : 0 < size) (hb64 : bytes ≤ 64)
 {v : Value} {n : Nat} {xs : List Value} (hown : wr.ownsRow B e size v n xs) (hB : B ≤ wr.heap.size) (hs : a.eval s = v)
 (A : Option Addr) (m c : Nat) (news : List Value) (hx : a.eval x = .slice A m c) (hR : Rd wr size A m news) (hnil : A = none → c = 0) (h1 : ∀ u ∈ news, u.oneCell' = true)
 (hN : n + m ≤ 1000000000)
 (h : ∀ v' w', w'.ownsRow B e size v' (n + m) (xs ++ news) → Below B wr w' → Zbl e wr w' → wpList P ops Q rest (a.put o.dst v') w') :
 wpList P ops Q (o :: rest) a wr := wpList_plain hgd fun K hK => by
 have := Zke (ops := ops) (K := K) (Q := Q) (E := True) hgd s x t ho B wr e i z size bytes ht hi hz hsize hby hzs hsz hb64 hown hB hs A m c news hx hR hnil h1 hN fun v' w' g1 g2 g3 => hK _ _ (h v' w' g1 g2 g3)
 rwa [Yan (by simp [Region.wanted, hgd])] at this
theorem Zaci : (prog.info? 86).map (fun i => (i.zero, i.size, i.bytes)) = some (some (.agg #[.int .i64 0, .slice none 0 0, .int .i64 0]), 3, 40) := by kernel_rfl
theorem Zaoc (v1 v2 : Value) (a b : List Line) (w : World) (h1 : Lr w v1 a) (h2 : Lr w v2 b) (hr1 : Zab a = true) (hr2 : Zab b = true) :
 Calls prog 32 #[v1, v2] w fun e w' => (∃ v Q, e = .returned v ∧ CRow w' w.heap.size v Q ∧ Q.map CV.chg = Zqn a b) ∧ Below w.heap.size w w' := by
 obtain ⟨i0, hi, hz0, hz1, hz2⟩ := info_parts Zaci;obtain ⟨A1, c1, rfl, hc1, hm1, hR1, -⟩ := h1;obtain ⟨A2, c2, rfl, hc2, hm2, hR2, -⟩ := h2;have h200 := Zas hr1;have HPa := Zhd (fun (i : Nat) (hi : i < a.length) (W : World) (hb : Below w.heap.size w W) => Zpr A1 c1 a i W (hR1.below hb) hc1 hm1 hr1 hi)
 unfold Zob at HPa;have HFi := Zhd (fun (P : List ByteArray) (Ap : Option Addr) (cp : Nat) (W : World) (hb : Below w.heap.size w W) (hP : Rd W 1 Ap P.length (sv P)) (hcp : P.length ≤ cp) (hc : cp ≤ maxLen) => Zbr A2 c2 b Ap cp P W (hR2.below hb) hc2 hm2 hr2 hP hcp hc)
 have HEn := Zhd (fun (i : Nat) (hi : i < a.length) (W : World) (hb : Below w.heap.size w W) => Zyo A1 c1 a i W (hR1.below hb) hc1 hm1 hr1 hi)
 have HLe := Zhd (fun (i : Nat) (hi : i < a.length) => Zbb a i hi)
 have HPL := Zhd (fun (i : Nat) (hi : i < a.length) => pathB_lenR hr1 hi)
 have HPB := Zhd (fun (i : Nat) (hi : i < a.length) => Znw (Zad hr1).2.1 hi)
 have HZ := Zhd (Zajl a b);unfold maxLen at hm1;clear hR1 hR2 hr1 hr2 hm2;go_enter func32, ntmps32;go_wp2_with fail;go_loopw [5, 6] (fun v vi wr => ∃ (i : Nat) (Q : List CV), i ≤ a.length ∧ vi = .int .i64 i ∧ Q.length ≤ i ∧ Hid (CRow wr w.heap.size v Q) ∧ Hid (Q.map CV.chg ++ Zka a b i = Zqn a b) ∧ Hid (Below w.heap.size w wr)) (fun _ vi _ => a.length - (intOf vi).toNat)
 case atStart => exact ⟨0, [], Yav _, rfl, Yaf _, Zgu _ _, HZ.out.symm, Yac _ _⟩
 case round =>
  clear HZ;obtain ⟨i, Q, hi', rfl, hQl, HQ, HM, HB⟩ := hrel;by_cases hlt : i < a.length
  · have HP := Zhd (HPa.out i hlt wr HB.out);have HS := Zhd (fun k (h : Zar b (pa a i) = some k) => Zamt (b := b) hlt h)
    have HN := Zhd (fun (h : Zar b (pa a i) = none) => Zanj (b := b) hlt h)
    have hpl := HPL.out i hlt;have hle := HLe.out i hlt;have HEi := Zhd (HEn.out i hlt);rw [HPB.out i hlt] at HP hpl;generalize pa a i = pp at *;generalize endB a i = en at *;clear HPa HEn HLe HPL HPB;have hii : (i : Int) < (a.length : Int) := by omega
    go_wp2_with fail;refine HP.out.mono ?_;rintro e w3 ⟨v7, rfl, ho7, hb7⟩;obtain ⟨A7, c7, e7, g1, g2, g3⟩ := Zbc ho7;subst e7;have HO7 : Hid (POwn w3 (.slice A7 pp.length c7, pp)) := World.ownsRow.mono ho7 (Yav _);have HQ3 := Zhd (HQ.out.below hb7);have HB3 := Zhd (Zaa HB.out hb7);have HF := Zhd (HFi.out pp A7 c7 w3 HB3.out g3 g1 g2);clear ho7 hb7 HP HQ HB g1 g2 g3 HFi;go_wp2_with fail;refine HF.out.mono ?_;rintro e w4 ⟨rfl, hb4⟩;have HO4 := Zhd (HO7.out.below hb4);have HQ4 := Zhd (HQ3.out.below hb4);have HB4 := Zhd (Zaa HB3.out hb4);clear hb4 HO7 HQ3 HB3 HF;cases hf : Zar b pp with
    | some k =>
      have HM2 : Hid (Q.map CV.chg ++ Zka a b (i + 1) = Zqn a b) := by show _ = _; rw [← HS.out k hf]; exact HM.out
      clear HS HN HM HEi hf;go_wp2_with fail;go_roundw
      case rel => exact ⟨i + 1, Q, by omega, by go_num, by omega, HQ4, HM2, HB4⟩
      case measure => simp [intOf]; omega
    | none =>
      have HM2 : Hid (∀ v : Value, (Q ++ [((1, (v, pp), 0) : CV)]).map CV.chg ++ Zka a b en = Zqn a b) := fun v => by
       rw [Ybs, Ybl, ← HM.out, HN.out hf]; rfl
      clear HS HN HM hf;go_wp2_with (at_builtin; refine Zjs rfl _ _ 54 rfl w w4 86 i0 _ 3 40 underlying54 hi hz0 hz1 hz2 rfl (by decide) (by decide) HQ4.out.1 HB4.out rfl 1 1 [.int .i64 1, .slice A7 pp.length c7, .int .i64 0] rfl rfl (by intro u hu; simp only [Yaw, Ybv, or_false] at hu; rcases hu with rfl | rfl | rfl <;> rfl) (by omega) ?_; intro v8 w8 hown8 hb8 hk8)
      have HQ8 : Hid (CRow w8 w.heap.size v8 (Q ++ [(1, (.slice A7 pp.length c7, pp), 0)])) := Zpx (x := (1, (.slice A7 pp.length c7, pp), 0)) hown8 HQ4.out.2 HO4.out hk8;have HB8 := Zhd hb8;clear hown8 hb8 hk8 HQ4 HB4 HO4;have hw1 : IntKind.i64.wrap ((en : Int) - 1) = (en : Int) - 1 := by rw [IntKind.wrap_i64]; omega
      go_wp2_with fail;refine (HEi.out w8 HB8.out).mono ?_;rintro e w9 ⟨rfl, hb9⟩;have HQ9 := Zhd (HQ8.out.below hb9);have HB9 := Zhd (Zaa HB8.out hb9);clear hb9 HEi HQ8 HB8;go_wp2_with fail;go_roundw
      case rel => exact ⟨en, Q ++ [(1, (.slice A7 pp.length c7, pp), 0)], by omega, by go_num, by rw [Yaj, Yby]; omega, HQ9, HM2.out _, HB9⟩
      case measure => simp [intOf]; omega
  · have HM2 : Hid (Q.map CV.chg = Zqn a b) := by
     show _ = _;rw [← HM.out, Zaoo (by omega), Ybg]
    obtain ⟨A, c, rfl, -, -, -⟩ := Zbc HQ.out.1;go_wp2_with fail;go_ret;exact ⟨⟨_, Q, rfl, HQ.out, HM2.out⟩, HB.out⟩
theorem Zaoz (v1 v2 : Value) (a b : List Line) (w : World) (h1 : Lr w v1 a) (h2 : Lr w v2 b) (hr1 : Zab a = true) (hr2 : Zab b = true) :
 Calls prog 19 #[v1, v2] w fun e w' => (∃ v Q, e = .returned (.tuple #[v, .int .i64 0]) ∧ CRow w' w.heap.size v Q ∧ Q.map CV.chg = Zaqy a b) ∧ Below w.heap.size w w' := by
 obtain ⟨i0, hi, hz0, hz1, hz2⟩ := info_parts Zaci;have HG := Zhd (fun (W : World) (hb : Below w.heap.size w W) => Zaoc v1 v2 a b W (h1.below hb) (h2.below hb) hr1 hr2)
 obtain ⟨A1, c1, rfl, hc1, hm1, hR1, -⟩ := h1;obtain ⟨A2, c2, rfl, hc2, hm2, hR2, -⟩ := h2;have h200 := Zas hr1;have h201 := Zas hr2;have HRa := Zhd (fun (W : World) (hb : Below w.heap.size w W) => Zbe A1 c1 a W (hR1.below hb) hc1 hm1)
 have HRb := Zhd (fun (W : World) (hb : Below w.heap.size w W) => Zbe A2 c2 b W (hR2.below hb) hc2 hm2)
 rw [hr1] at HRa;rw [hr2] at HRb;have HPa := Zhd (fun (i : Nat) (hi : i < b.length) (W : World) (hb : Below w.heap.size w W) => Zpr A2 c2 b i W (hR2.below hb) hc2 hm2 hr2 hi)
 unfold Zob at HPa;have HFi := Zhd (fun (P : List ByteArray) (Ap : Option Addr) (cp : Nat) (W : World) (hb : Below w.heap.size w W) (hP : Rd W 1 Ap P.length (sv P)) (hcp : P.length ≤ cp) (hc : cp ≤ maxLen) => Zbr A1 c1 a Ap cp P W (hR1.below hb) hc1 hm1 hr1 hP hcp hc)
 have HPL := Zhd (fun (i : Nat) (hi : i < b.length) => pathB_lenR hr2 hi)
 have HPB := Zhd (fun (i : Nat) (hi : i < b.length) => Znw (Zad hr2).2.1 hi)
 have HR1 := Zhd hR1;have HR2 := Zhd hR2;unfold maxLen at hm1 hm2;have HGl : Hid ((Zqn a b).length ≤ 200) := Yas (Zwk a.length 0) (by omega)
 clear hR1 hR2 hr1 hr2;go_enter func19, ntmps19;go_wp2_with fail;refine (HRa.out _ (Yac _ _)).mono ?_;rintro e w2 ⟨rfl, hb2⟩;go_wp2_with fail;refine (HRb.out _ hb2).mono ?_;rintro e w3 ⟨rfl, hb3⟩;have hb3w := Zaa hb2 hb3;clear hb2 hb3 HRa HRb;go_wp2_with fail;refine (HG.out _ hb3w).mono ?_;rintro e w4 ⟨⟨v4, Q4, rfl, hQ4, hM4⟩, hb4⟩;have HQ4 := Zhd (show CRow w4 w.heap.size v4 Q4 from ⟨World.ownsRow.mono hQ4.1 hb3w.size, hQ4.2⟩)
 have HB4 := Zhd (Zaa hb3w hb4);have HM4 := Zhd hM4;have hl4 : Q4.length ≤ 200 := by rw [← Yax (f := CV.chg), HM4.out]; exact HGl.out
 clear hQ4 hM4 hb4 hb3w HG HGl;have HFl := Zhd (fun (P : List ByteArray) (k : Nat) (h : Zar a P = some k) => Zcd h)
 go_wp2_with fail;go_loopw [6, 7, 27] (fun v6 v7 vi wr => ∃ (i : Nat) (Q R : List CV), i ≤ b.length ∧ vi = .int .i64 i ∧ Q.length ≤ 200 + i ∧ R.length ≤ i ∧ Hid (CRow wr w.heap.size v6 Q) ∧ Hid (CRow wr w.heap.size v7 R) ∧ Hid (Q.map CV.chg = Zqn a b ++ Zqt a b i) ∧ Hid (R.map CV.chg = Zoq a b i) ∧ Hid (Apt v7 v6) ∧ Hid (Below w.heap.size w wr)) (fun _ _ vi _ => b.length - (intOf vi).toNat)
 case atStart => exact ⟨0, Q4, [], Yav _, rfl, hl4, Yaf _, HQ4, Zgu _ _, by show _ = _; rw [HM4.out]; exact (Ybg _).symm, rfl, (Zatz _).symm, HB4⟩
 case round =>
  clear HQ4 HM4 hl4 HB4;obtain ⟨i, Q, R, hi', rfl, hQl, hRl, HQ, HR, HM, HM2, HAp, HB⟩ := hrel;obtain ⟨Aq, cq, eq, -, -, -⟩ := Zbc HQ.out.1;obtain ⟨Ar, cr, er, -, -, -⟩ := Zbc HR.out.1;subst eq er;by_cases hlt : i < b.length
  · have HP := Zhd (HPa.out i hlt);have hpl := HPL.out i hlt;have HA1 := Zhd (Zajh a b i);have HA2 := Zhd (Zahv a b i);obtain ⟨B, O, rfl, hab, hadd, x0, x1, x2⟩ := (HR2.out.below HB.out).line hlt;have HL : Hid (Zdq b i = b[i]) := Zdf hlt;rw [HPB.out i hlt] at HP hpl;have hii : (i : Int) < (b.length : Int) := by omega
    unfold Zato at HA1;unfold Zavp at HA2;rw [HL.out] at HA1 HA2;generalize pa b i = pp at *;generalize b[i] = ln at *;obtain ⟨dp, wd, mk⟩ := ln;clear HL HPa HPL HPB;obtain ⟨w5, hw5⟩ : ∃ w5, wr.alloc (.cells #[.int .i64 dp, .string wd, .int .i64 mk] 62) = w5 := ⟨_, rfl⟩;have HX : Hid (Bl w5 wr.heap.size #[.int .i64 dp, .string wd, .int .i64 mk] 62) := by rw [← hw5]; exact Bl.new _ _ _
    have hb5 : Below wr.heap.size wr w5 := by rw [← hw5]; exact (Yac _ _).alloc (Yaf _) _
    have HQ5 := Zhd (HQ.out.below hb5);have HR5 := Zhd (HR.out.below hb5);have HB5 := Zhd (Zaa HB.out hb5);go_upto_region 8 with fail
    try rw [hw5]
    clear hw5 HQ HR HB hb5 x0 x1 x2;go_wp2_with fail;refine (HP.out w5 HB5.out).mono ?_;rintro e w6 ⟨v6, rfl, ho6, hb6⟩;obtain ⟨A6, c6, e6, g1, g2, g3⟩ := Zbc ho6;subst e6;have HO6 : Hid (POwn w6 (.slice A6 pp.length c6, pp)) := World.ownsRow.mono ho6 (Yav _);have HX6 := Zhd (HX.out.below hb6);have HQ6 := Zhd (HQ5.out.below hb6);have HR6 := Zhd (HR5.out.below hb6);have HB6 := Zhd (Zaa HB5.out hb6);have HF := Zhd (HFi.out pp A6 c6 w6 HB6.out g3 g1 g2);clear ho6 hb6 HP HQ5 HR5 HB5 HX g1 g2 g3;go_wp2_with fail;refine HF.out.mono ?_;rintro e w7 ⟨rfl, hb7⟩;have HO7 := Zhd (HO6.out.below hb7);have HX7 := Zhd (HX6.out.below hb7);have HQ7 := Zhd (HQ6.out.below hb7);have HR7 := Zhd (HR6.out.below hb7);have HB7 := Zhd (Zaa HB6.out hb7);have y2 : w7.cell? ⟨wr.heap.size, 2, none⟩ = some (.int .i64 mk) := (HX7.out.cell 2).trans rfl;clear hb7 HO6 HQ6 HR6 HX6 HB6 HF;cases hf : Zar a pp with
    | none =>
      rw [hf] at HA1 HA2
      have HMn : Hid (∀ v : Value, (Q ++ [((2, (v, pp), mk) : CV)]).map CV.chg = Zqn a b ++ Zqt a b (i + 1)) := fun v => by
       rw [Ybs, HM.out, HA1.out, Ybl]; rfl
      have HMo : Hid (R.map CV.chg = Zoq a b (i + 1)) := by show _ = _; rw [HM2.out, HA2.out]; simp
      clear HA1 HA2 HM HM2 hf;go_wp2_with (at_builtin; refine Zalt rfl _ _ 54 rfl w w7 86 i0 _ 3 40 underlying54 hi hz0 hz1 hz2 rfl (by decide) (by decide) HQ7.out.1 HB7.out rfl 1 1 [.int .i64 2, .slice A6 pp.length c6, .int .i64 mk] rfl rfl (by intro u hu; simp only [Yaw, Ybv, or_false] at hu; rcases hu with rfl | rfl | rfl <;> rfl) (by omega) HR7.out.1 HAp.out ?_; intro v8 w8 hown8 hb8 hk8 hoth8 hap8)
      have HQ8 : Hid (CRow w8 w.heap.size v8 (Q ++ [(2, (.slice A6 pp.length c6, pp), mk)])) := Zpx (x := (2, (.slice A6 pp.length c6, pp), mk)) hown8 HQ7.out.2 HO7.out hk8;have HB8 := Zhd hb8;have HR8 : Hid (CRow w8 w.heap.size (.slice Ar R.length cr) R) := ⟨hoth8, fun x hx => Zhv (HR7.out.2 x hx) hk8⟩
      have HA8 := Zhd hap8;clear hown8 hb8 hk8 hoth8 hap8;go_wp2_with fail;go_roundw
      case rel => exact ⟨i + 1, _, R, by omega, by go_num, by rw [Yaj, Yby]; omega, by omega, HQ8, HR8, HMn.out _, HMo, HA8, HB8⟩
      case measure => simp [intOf]; omega
    | some k =>
      rw [hf] at HA1 HA2;have hk := HFl.out _ _ hf;have hki : (k : Int) < (a.length : Int) := by omega
      obtain ⟨B1, O1, rfl, hab1, hadd1, -, -, z2⟩ := (HR1.out.below HB7.out).line hk;have HLa : Hid (Zdq a k = a[k]) := Zdf hk;rw [show Zou (some k) = (k : Int) from rfl];have HA2 := HA2;simp only at HA2;rw [HLa.out] at HA2;generalize a[k] = la at *;obtain ⟨dq, wq, mq⟩ := la;have HMn : Hid (Q.map CV.chg = Zqn a b ++ Zqt a b (i + 1)) := by show _ = _; rw [HM.out, HA1.out]; simp
      have mixed : prog.follows .mixedOrders = true := by kernel_rfl
      have y2' := y2;by_cases hm : mq = mk
      · subst hm;have HMo : Hid (R.map CV.chg = Zoq a b (i + 1)) := by show _ = _; rw [HM2.out, HA2.out]; simp
        have hmm : (mq != mq) = false := bne_self_eq_false mq;clear HA1 HA2 HM HM2 hf HLa;go_wp2_with fail;go_region_held3 (fun W => W.cell? ⟨B1, O1 + k * 3 + 2, none⟩ = some (.int .i64 mq) ∧ W.cell? ⟨wr.heap.size, 2, none⟩ = some (.int .i64 mq)) (go_keep) ((fail))
        go_wp2_with fail;go_roundw
        case rel => exact ⟨i + 1, Q, R, by omega, by go_num, by omega, by omega, HQ7.out.below (Yac _ _).drew, HR7.out.below (Yac _ _).drew, HMn, HMo, HAp, HB7.out.drew⟩
        case measure => simp [intOf]; omega
      · have hmm : (mq != mk) = true := by rw [bne_iff_ne]; exact hm
        have HMo : Hid (∀ v : Value, (R ++ [((3, (v, pp), mk) : CV)]).map CV.chg = Zoq a b (i + 1)) := fun v => by
         rw [Ybs, HM2.out, HA2.out, Yab hm]; rfl
        clear HA1 HA2 HM HM2 hf HLa hm;go_wp2_with fail;go_region_held3 (fun W => W.cell? ⟨B1, O1 + k * 3 + 2, none⟩ = some (.int .i64 mq) ∧ W.cell? ⟨wr.heap.size, 2, none⟩ = some (.int .i64 mk)) (go_keep) ((fail))
        obtain ⟨wd7, hwd7⟩ : ∃ x, w7.drew = x := ⟨_, rfl⟩;have HQd := Zhd (show CRow wd7 _ _ _ from hwd7 ▸ HQ7.out.below (Yac _ _).drew)
        have HRd := Zhd (show CRow wd7 _ _ _ from hwd7 ▸ HR7.out.below (Yac _ _).drew)
        have HOd := Zhd (show POwn wd7 _ from hwd7 ▸ HO7.out.below (Yac _ _).drew)
        have HBd := Zhd (show Below _ _ wd7 from hwd7 ▸ HB7.out.drew)
        have y3 : wd7.cell? ⟨wr.heap.size, 2, none⟩ = some (.int .i64 mk) := by rw [← hwd7]; simpa using y2
        try rw [hwd7]
        clear hwd7 y2 y2' HQ7 HR7 HO7 HB7 z2;go_wp2_with (at_builtin; refine Zalt rfl _ _ 54 rfl w wd7 86 i0 _ 3 40 underlying54 hi hz0 hz1 hz2 rfl (by decide) (by decide) HRd.out.1 HBd.out rfl 1 1 [.int .i64 3, .slice A6 pp.length c6, .int .i64 mk] rfl rfl (by intro u hu; simp only [Yaw, Ybv, or_false] at hu; rcases hu with rfl | rfl | rfl <;> rfl) (by omega) HQd.out.1 HAp.out.symm ?_; intro v8 w8 hown8 hb8 hk8 hoth8 hap8)
        have HR8 : Hid (CRow w8 w.heap.size v8 (R ++ [(3, (.slice A6 pp.length c6, pp), mk)])) := Zpx (x := (3, (.slice A6 pp.length c6, pp), mk)) hown8 HRd.out.2 HOd.out hk8;have HB8 := Zhd hb8;have HQ8 : Hid (CRow w8 w.heap.size (.slice Aq Q.length cq) Q) := ⟨hoth8, fun x hx => Zhv (HQd.out.2 x hx) hk8⟩
        have HA8 := Zhd hap8.symm;clear hown8 hb8 hk8 hoth8 hap8;go_wp2_with fail;go_roundw
        case rel => exact ⟨i + 1, Q, _, by omega, by go_num, by omega, by rw [Yaj, Yby]; omega, HQ8, HR8, HMn, HMo.out _, HA8, HB8⟩
        case measure => simp [intOf]; omega
  · obtain rfl : i = b.length := by omega
    have HE : Hid ((Q ++ R).map CV.chg = Zaqy a b) := by show _ = _; rw [Ybs, HM.out, HM2.out]; rfl
    obtain ⟨hRd, hnil⟩ := Zkb HR.out.1
    have hcl : ∀ u ∈ cvc R, u.oneCell' = true := fun u hu => by
     unfold cvc at hu;obtain ⟨q, hq, hu⟩ := Ydi.1 hu;simp only [Yaw, Ybv, or_false] at hu;rcases hu with rfl | rfl | rfl
     · rfl
     · exact (HR.out.2 q hq).cell
     · rfl
    have HRd := Zhd hRd;have HNil := Zhd hnil;have HCl := Zhd hcl;clear hRd hnil hcl;go_wp2_with (at_builtin; refine Zatx rfl _ _ 54 rfl w.heap.size wr 86 i0 _ 3 40 underlying54 hi hz0 hz1 hz2 rfl (by decide) (by decide) HQ.out.1 HB.out.size rfl Ar R.length cr (cvc R) rfl HRd.out HNil.out HCl.out (by omega) ?_; intro v8 w8 hown8 hb8 hk8)
    have HQ8 : Hid (CRow w8 w.heap.size v8 (Q ++ R)) := ⟨by rw [Zahx, Yaj]; exact hown8, fun x hx => (Ybm.1 hx).elim (fun hx => Zhv (HQ.out.2 x hx) hk8) (fun hx => Zhv (HR.out.2 x hx) hk8)⟩
    have HB8 := Zhd (HB.out.trans hb8);obtain ⟨A8, c8, e8, -, -, -⟩ := Zbc HQ8.out.1;subst e8;clear hown8 hb8 hk8 HRd HNil HCl;go_wp2_with fail;exact bodyPost_ret (v := .tuple #[.slice A8 (Q ++ R).length c8, .int .i64 0]) (by simp [results, results19, go_sem]) rfl ⟨⟨_, Q ++ R, rfl, HQ8.out, HE.out⟩, HB8.out⟩
end Go.Proofs.Zq
namespace Edt
open Go Go.Lib Tre Sch Lns
def Zagc (S : Ps) (who : Int) : List Chg := if 0 ≤ who ∧ who < 3 ∧ (S.ses who.toNat).opn = true then Zaqy S.run (S.ses who.toNat).mine else []
theorem Zabt {S : Ps} {who : Int} (h : ¬ (0 ≤ who ∧ who < 3 ∧ (S.ses who.toNat).opn = true)) : Zagc S who = [] := by unfold Zagc; rw [Yab h]
theorem Zaql {S : Ps} {k : Nat} (hk : k < 3) (h : (S.ses k).opn = true) : Zagc S (k : Int) = Zaqy S.run (S.ses k).mine := by
 unfold Zagc; rw [Ybq, Yan ⟨by omega, by omega, h⟩]
end Edt
namespace Go.Proofs.Zq
open Tryz
open Go Go.RowKit Go.Sort Tre Lx Prs Lns Edt Sch
theorem Zaab (C : Array Value) (S : Ps) (who : Int) (w : World) (hP : PlC w C S) (h3 : Zab S.run = true) (h2 : ∀ k, k < 3 → Zab (S.ses k).mine = true) :
 Calls prog 13 #[.agg C, .int .i64 who] w fun e w' => (∃ v Q, e = .returned v ∧ CRow w' w.heap.size v Q ∧ Q.map CV.chg = Zagc S who) ∧ Below w.heap.size w w' := by
 obtain ⟨wr, hwr⟩ : ∃ wr, w.alloc (.cells C 31) = wr := ⟨_, rfl⟩;have hs1 : w.heap.size < wr.heap.size := by rw [← hwr]; simp
 have Bp : Bl wr w.heap.size C 31 := by rw [← hwr]; exact Bl.new _ _ _
 have HB : Hid (Below w.heap.size w wr) := by show Below _ _ _; rw [← hwr]; exact (Yac _ _).alloc (Yaf _) _
 by_cases c1 : who < 0
 · have HN := Zhd (Zabt (S := S) (who := who) (fun h => by omega))
   go_enter func13, ntmps13;go_wp2_with fail;go_ret
   first | exact ⟨⟨_, [], rfl, Zgu _ _, HN.out.symm⟩, HB.out⟩ | exact ⟨⟨_, rfl, [], Zgu _ _, HN.out.symm⟩, HB.out⟩
 by_cases c2 : 3 ≤ who
 · have HN := Zhd (Zabt (S := S) (who := who) (fun h => by omega))
   go_enter func13, ntmps13;go_wp2_with fail;go_ret
   first | exact ⟨⟨_, [], rfl, Zgu _ _, HN.out.symm⟩, HB.out⟩ | exact ⟨⟨_, rfl, [], Zgu _ _, HN.out.symm⟩, HB.out⟩
 obtain ⟨k, rfl⟩ : ∃ k : Nat, who = (k : Int) := ⟨who.toNat, by omega⟩
 have hk : k < 3 := by omega
 have hki : (k : Int) < 3 := by omega
 have hk0 : (0 : Int) ≤ (k : Int) := by omega
 have px0 : wr.cell? ⟨w.heap.size, 2 + k * 3, none⟩ = some (.bool (S.ses k).opn) := (Bp.cell _).trans (hP.opn k hk);clear c1 c2;cases ho : (S.ses k).opn with
 | false =>
   have HN := Zhd (Zabt (S := S) (who := (k : Int)) (fun h => by rw [Ybq, ho] at h; cases h.2.2))
   rw [ho] at px0;go_enter func13, ntmps13;go_wp2_with fail;go_ret
   first | exact ⟨⟨_, [], rfl, Zgu _ _, HN.out.symm⟩, HB.out⟩ | exact ⟨⟨_, rfl, [], Zgu _ _, HN.out.symm⟩, HB.out⟩
 | true =>
   have HN := Zhd (Zaql hk ho);rw [ho] at px0;obtain ⟨v0, e0, hl0⟩ := hP.run;obtain ⟨v2, e2, hl2⟩ := hP.mine k hk;obtain ⟨A0, n0, c0, rfl⟩ := hl0.slice;obtain ⟨A2, n2, c2, rfl⟩ := hl2.slice;have HK : Hid (∀ W, Below wr.heap.size wr W → W.cell? ⟨w.heap.size, 0, none⟩ = some (.slice A0 n0 c0) ∧ W.cell? ⟨w.heap.size, 2 + k * 3 + 2, none⟩ = some (.slice A2 n2 c2)) := fun W hb => ⟨((Bp.below hb).cell _).trans e0, ((Bp.below hb).cell _).trans e2⟩
   have HD := Zhd (fun (W : World) (hb : Below wr.heap.size wr W) => Zaoz _ _ S.run (S.ses k).mine W (hl0.below (Zaa HB.out hb)) (hl2.below (Zaa HB.out hb)) h3 (h2 k hk))
   have HA := Zhd (Yac wr.heap.size wr).drew;have mixed : prog.follows .mixedOrders = true := by kernel_rfl
   clear hl0 hl2 e0 e2 h2 h3 ho hP Bp;go_enter func13, ntmps13;go_wp2_with fail;go_region_held3 (fun W => W.cell? ⟨w.heap.size, 0, none⟩ = some (.slice A0 n0 c0) ∧ W.cell? ⟨w.heap.size, 2 + k * 3 + 2, none⟩ = some (.slice A2 n2 c2)) (first | exact HK.out _ HB5.out | exact HK.out _ HA.out) (first | (go_at_call 19; refine (HD.out _ HA.out).mono ?_; rintro e w5 ⟨⟨v5, Q5, rfl, hQ5, hM5⟩, hb5⟩; have HQ5 := Zhd (show CRow w5 w.heap.size v5 Q5 from ⟨World.ownsRow.mono hQ5.1 (Zaa HB.out HA.out).size, hQ5.2⟩); have HB5 := Zhd (Zaa HA.out hb5); have HM5 := Zhd hM5; clear hQ5 hM5 hb5))
   obtain ⟨A5, c5, e5, -, -, -⟩ := Zbc HQ5.out.1;subst e5;go_wp2_with fail;go_ret;exact ⟨⟨_, Q5, rfl, HQ5.out, by rw [HM5.out, HN.out]⟩, Zaa HB.out HB5.out⟩
end Go.Proofs.Zq
