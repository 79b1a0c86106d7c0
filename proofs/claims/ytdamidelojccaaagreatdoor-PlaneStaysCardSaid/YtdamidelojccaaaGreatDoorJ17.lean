import Derived.Test.YtdamidelojccaaaGreatDoorJ16
set_option maxHeartbeats 8000000
set_option maxRecDepth 100000
namespace Sch
open Go Go.Lib Adr Mtr Tre
def Zwy (P : List ByteArray) : Bool := (Ziz P).isSome
def Zep (P : List ByteArray) : Bool := (List.range P.length).all fun q => decide (q = 0) || Zwy (P.take q)
def Zjw (L : List Line) (i : Nat) : List Zpd :=
 if Zep (pa L i) then (match Ziz (pa L i) with | none => [(pa L i, Zfz (pa L i))] | some r => Zrq L i r (pa L i)) else []
def Zkh (L : List Line) : List Zpd := (List.range L.length).flatMap (Zjw L)
def Zcn (L : List Line) (k : Nat) : List Zpd := (List.range k).flatMap (Zjw L)
theorem Znb {P : List ByteArray} : Zep P = true ↔ ∀ q, 1 ≤ q → q < P.length → Zwy (P.take q) = true := by
 unfold Zep;rw [Ybr];constructor
 · intro h q h1 h2;have := h q (Ycz.2 h2);simpa [show q ≠ 0 by omega] using this
 · intro h q hq;rcases Ybn q with h0 | h0
   · simp [h0]
   · simp [h q h0 (List.mem_range.1 hq)]
theorem Zalp (a : ByteArray) : Zep [a] = true := by
 rw [Znb]; intro q h1 h2; simp at h2; omega
section
variable {L : List Line} (hr : Zab L = true)
include hr
theorem Zafz (h : 0 < L.length) : Zep (pa L 0) = true := by
 rw [Zsj (Zad hr).2.1 h]; exact Zalp _
theorem Zafc {i : Nat} (h : i + 1 < L.length) (ha : Zep (pa L i) = true) (hk : Zwy (pa L i) = true) : Zep (pa L (i + 1)) = true := by
 obtain ⟨-, hd, -⟩ := Zad hr;have h1 := Zkp hd h;have h2 := Zbw hd (show i < L.length by omega)
 have h3 := Zcf hd h;have h4 := Zcf hd (show i < L.length by omega)
 rw [Znb] at ha ⊢;rw [Ziv h];intro q hq1 hq2;rw [Yaj, Yad, Yby] at hq2;have hq3 : q ≤ (Zan L (i + 1)).toNat := by omega
 rw [Ycd (by rw [Yad]; omega), Ycu, Ybb hq3]
 by_cases hl : q < (pa L i).length
 · exact ha q hq1 hl
 · rw [Ybj (by omega)]; exact hk
theorem Zahs {i : Nat} (hi : i < L.length) (h : endB L i < L.length) (ha : Zep (pa L i) = true) : Zep (pa L (endB L i)) = true := by
 obtain ⟨-, hd, -⟩ := Zad hr;have hb := Zbb L i hi;have ho := Zrz hi h;obtain ⟨e, he⟩ : ∃ e, endB L i = e + 1 := ⟨endB L i - 1, by omega⟩
 have h2 := Zbw hd hi;have h4 := Zcf hd hi;have h5 := Zcf hd h
 have hkp := Zqr hd (D := (Zan L (endB L i)).toNat) (i := i) (k := e) (by omega) (by omega) (fun m m1 m2 => by
  have := Ztd hi m1 (by omega : m < endB L i)
  omega)
 rw [Znb] at ha ⊢;rw [he] at h hkp h5 ho ⊢;have h6 := Zbw hd (show e < L.length by omega)
 have h7 := Zkp hd h;rw [Ziv h];intro q hq1 hq2;rw [Yaj, Yad, Yby] at hq2;have hq3 : q ≤ (Zan L (e + 1)).toNat := by omega
 rw [Ycd (by rw [Yad]; omega), hkp, Ycu, Ybb hq3]
 exact ha q hq1 (by omega)
theorem Zavg {i m : Nat} (hi : i < L.length) (h1 : i < m) (h2 : m < endB L i) (hk : Zwy (pa L i) = false) : Zep (pa L m) = false := by
 obtain ⟨-, hd, -⟩ := Zad hr;have hb := Zbb L i hi;have hl := Zbw hd hi;have hm := Zbw hd (show m < L.length by omega)
 have h4 := Zcf hd hi;have h5 := Ztd hi h1 h2
 have hkp := Zqr hd (D := (Zan L i).toNat + 1) (i := i) (k := m) (by omega) (by omega) (fun x x1 x2 => by
  have := Ztd hi x1 (by omega : x < endB L i)
  omega)
 rw [Ybj (l := pa L i) (by omega)] at hkp
 cases ha : Zep (pa L m) with
 | false => rfl
 | true =>
   rw [Znb] at ha;have := ha ((Zan L i).toNat + 1) (by omega) (by omega)
   rw [hkp, hk] at this;cases this
omit hr in
theorem Zamb : Zcn L L.length = Zkh L := rfl
omit hr in
theorem Zagj : Zcn L 0 = [] := rfl
omit hr in
theorem Zabc {i : Nat} {r : Rule} (ha : Zep (pa L i) = true) (h : Ziz (pa L i) = some r) : Zcn L (i + 1) = Zcn L i ++ Zrq L i r (pa L i) := by
 unfold Zcn;rw [Ydn, Yck];congr 1;unfold Zjw;rw [Ybt, List.flatMap_nil, Ybg, ha, h]; rfl
theorem Zagd {i : Nat} (hi : i < L.length) (ha : Zep (pa L i) = true) (h : Ziz (pa L i) = none) : Zcn L (endB L i) = Zcn L i ++ [(pa L i, Zfz (pa L i))] := by
 have hb := Zbb L i hi;have hk : Zwy (pa L i) = false := by unfold Zwy; rw [h]; rfl
 have key : ∀ n, i + 1 + n ≤ endB L i → Zcn L (i + 1 + n) = Zcn L i ++ [(pa L i, Zfz (pa L i))] := by
  intro n
  induction n with
  | zero =>
    intro _;unfold Zcn;rw [Yef, Ydn, Yck];congr 1;unfold Zjw;rw [Ybt, List.flatMap_nil, Ybg, ha, h]; rfl
  | succ n ih =>
    intro hn;have e := ih (by omega)
    rw [← e];unfold Zcn;rw [← Ydg, Ydn, Yck];have hdead := Zavg hr hi (show i < i + 1 + n by omega) (by omega) hk
    have : Zjw L (i + 1 + n) = [] := by unfold Zjw; rw [hdead]; rfl
    rw [Ybt, this, List.flatMap_nil, Ybg, Ybg]
 have := key (endB L i - (i + 1)) (by omega)
 rwa [show i + 1 + (endB L i - (i + 1)) = endB L i by omega] at this
end
instance (a b : List ByteArray) : Decidable (pLt a b) := inferInstanceAs (Decidable (List.lt (key a) (key b)))
section
variable {L : List Line} (hr : Zab L = true)
include hr
omit hr in
theorem Zbt {Q : List ByteArray} : Q ∈ Zaf L ↔ ∃ j, j < L.length ∧ pa L j = Q := by
 rw [Zrs, Yda];simp [List.mem_range]
end
def Zfq : List (List ByteArray) → List Line → Prop
 | [], [] => True
 | q :: S, l :: L => (Zbv l = true ∧ l.depth = ((q.length - 1 : Nat) : Int) ∧ q.getLastD ⟨#[]⟩ = l.word) ∧ Zfq S L
 | [], _ :: _ => False
 | _ :: _, [] => False
theorem Zzd : ∀ {S : List (List ByteArray)} {L : List Line}, Zfq S L → S.length = L.length
 | [], [], _ => rfl
 | _ :: _, _ :: _, h => by rw [Ybi, Ybi, Zzd h.2]
 | [], _ :: _, h => h.elim
 | _ :: _, [], h => h.elim
theorem Zga : ∀ {S T : List (List ByteArray)} {L M : List Line}, Zfq S L → Zfq T M → Zfq (S ++ T) (L ++ M)
 | [], _, [], _, _, k => k
 | _ :: _, _, _ :: _, _, h, k => ⟨h.1, Zga h.2 k⟩
 | [], _, _ :: _, _, h, _ => h.elim
 | _ :: _, _, [], _, h, _ => h.elim
theorem Zic : ∀ {S : List (List ByteArray)} {L : List Line} (n : Nat), Zfq S L → Zfq (S.take n) (L.take n)
 | [], [], n, _ => by simp [Zfq]
 | _ :: _, _ :: _, 0, _ => trivial
 | _ :: _, _ :: _, n + 1, h => ⟨h.1, Zic n h.2⟩
 | [], _ :: _, _, h => h.elim
 | _ :: _, [], _, h => h.elim
theorem Zhz : ∀ {S : List (List ByteArray)} {L : List Line} (n : Nat), Zfq S L → Zfq (S.drop n) (L.drop n)
 | [], [], n, _ => by simp [Zfq]
 | _ :: _, _ :: _, 0, h => h
 | _ :: _, _ :: _, n + 1, h => Zhz n h.2
 | [], _ :: _, _, h => h.elim
 | _ :: _, [], _, h => h.elim
theorem Zln (q : List ByteArray) (h : q ≠ []) : q.dropLast ++ [q.getLastD ⟨#[]⟩] = q := by
 rw [Ybu, List.getLast?_eq_some_getLast h];exact List.dropLast_concat_getLast h
theorem Zady : ∀ {S : List (List ByteArray)} {L : List Line} {p : List ByteArray}, Zfq S L → (∀ q ∈ S, q ≠ [] ∧ pLt p q ∧ (q.dropLast ∈ S ∨ q.dropLast = p ∨ pLt q.dropLast p)) → S.Pairwise pLt →
 Zcr p L = true ∧ Zih p L = true ∧ Zbs p L = S
 | [], [], _, _, _, _ => ⟨rfl, rfl, rfl⟩
 | [], _ :: _, _, h, _, _ => h.elim
 | _ :: _, [], _, h, _, _ => h.elim
 | q :: S, l :: L, p, h, hq, hs => by
   obtain ⟨⟨h1, h2, h3⟩, hf⟩ := h;obtain ⟨hs1, hs2⟩ := Ycb.1 hs;obtain ⟨hne, hpq, hpre⟩ := hq q (by simp)
   have hpush := Zln q hne;have hlt : pLt q.dropLast q := by
    have := Zkt q.dropLast (q.getLastD ⟨#[]⟩) []
    rwa [hpush] at this
   have hpre2 : q.dropLast = p ∨ pLt q.dropLast p := by
    rcases hpre with h | h
    · rcases Yaw.1 h with e | e
      · rw [e] at hlt; exact absurd hlt (Zby _)
      · exact absurd (Zcb hlt (hs1 _ e)) (Zby _)
    · exact h
   obtain ⟨s, hps⟩ : ∃ s, p = q.dropLast ++ s := by
    rcases hpre2 with e | e
    · exact ⟨[], by rw [e]; simp⟩
    · exact Zajn e (.inl (by rw [hpush]; exact hpq))
   have hdl : q.dropLast.length = q.length - 1 := by simp
   have hdn : l.depth.toNat = q.dropLast.length := by rw [h2, hdl]; simp
   have hnxt : nxt p l = q := by
    unfold nxt;rw [hdn, hps, Ydt, ← h3, hpush];rfl
   have hle : l.depth ≤ (p.length : Int) := by
    rw [h2, ← hdl, hps, Yaj]; omega
   have hsrt : Zaai p l = true := by
    unfold Zaai;cases s with
    | nil =>
      rw [Ybg] at hps;rw [Yal (p := l.depth = (p.length : Int)) (by rw [h2, ← hdl, hps])]; rfl
    | cons x s =>
      have hx : pLt (x :: s) [q.getLastD ⟨#[]⟩] := by
       rw [hps] at hpq
       conv at hpq => rhs; rw [← hpush]
       exact Zfk.1 hpq
      have hxl : x.toList < l.word.toList := by
       rcases Zeh.1 hx with h | ⟨-, h⟩
       · rw [h3] at h; exact h
       · exact absurd h (Zim _)
      have hg : p.getD l.depth.toNat ⟨#[]⟩ = x := by
       rw [hdn, hps, Yap, Ybh (Yaf _)]; simp
      rw [hg, Proofs.bytesLess_eq, Yal hxl, Bool.or_true]
   have ih := Zady (S := S) (L := L) (p := q) hf (fun x hx => by
    obtain ⟨a, b, c⟩ := hq x (Ycg _ hx);refine ⟨a, hs1 x hx, ?_⟩;rcases c with c | c | c
    · rcases Yaw.1 c with e | e
      · exact .inr (.inl e)
      · exact .inl e
    · exact .inr (.inr (by rw [c]; exact hpq))
    · exact .inr (.inr (Zcb c hpq))) hs2
   obtain ⟨i1, i2, i3⟩ := ih;refine ⟨?_, ?_, ?_⟩
   · show (Zbv l && decide (l.depth ≤ (p.length : Int)) && Zcr (nxt p l) L) = true;rw [h1, Yal hle, hnxt, i1]; rfl
   · show (Zaai p l && Zih (nxt p l) L) = true;rw [hsrt, hnxt, i2]; rfl
   · show nxt p l :: Zbs (nxt p l) L = q :: S;rw [hnxt, i3]
def Zws (S : List (List ByteArray)) : Prop := S.Pairwise pLt ∧ ∀ q ∈ S, q ≠ [] ∧ (q.dropLast ∈ S ∨ q.dropLast = [])
theorem Zaxh (q : List ByteArray) : q = [] ∨ pLt [] q := by
 cases q with
 | nil => exact .inl rfl
 | cons a l => exact .inr (Zaav a l)
theorem Zjv {S : List (List ByteArray)} {L : List Line} (hf : Zfq S L) (hs : Zws S) (hl : L.length ≤ 200) : Zab L = true ∧ Zaf L = S := by
 obtain ⟨h1, h2, h3⟩ := Zady (p := []) hf (fun q hq => by
  obtain ⟨a, b⟩ := hs.2 q hq;refine ⟨a, ?_, ?_⟩
  · rcases Zaxh q with e | e
    · exact absurd e a
    · exact e
  · rcases b with b | b
    · exact .inl b
    · exact .inr (.inl b)) hs.1
 exact ⟨by rw [Zqk, Yal hl, h1, h2]; rfl, h3⟩
theorem Zxl : ∀ {L : List Line} {p : List ByteArray}, Zcr p L = true → Zfq (Zbs p L) L
 | [], _, _ => trivial
 | l :: r, p, h => by
   have h : (Zbv l && decide (l.depth ≤ (p.length : Int)) && Zcr (nxt p l) r) = true := h;rw [Yar, Yar, Yao] at h;obtain ⟨⟨h1, h2⟩, h3⟩ := h;have d := Zdw h1;have hn := Zuh d.1 h2;refine ⟨⟨h1, by omega, ?_⟩, Zxl h3⟩
   unfold nxt;rw [Ybu, Ycr]; rfl
theorem Zea {L : List Line} (hr : Zab L = true) : Zws (Zaf L) ∧ Zfq (Zaf L) L := by
 obtain ⟨-, hd, hs⟩ := Zad hr;refine ⟨⟨(Zki hd hs).2, fun q hq => ?_⟩, Zxl hd⟩
 obtain ⟨i, hi, rfl⟩ := Zbt.1 hq;have hl := Zbw hd hi;refine ⟨fun e => by rw [e] at hl; simp at hl, ?_⟩
 rcases Ybp 1 (pa L i).length with h | h
 · left
   obtain ⟨m, hm, e⟩ := Zom hd hi (q := (pa L i).length - 1) (by omega) (by omega)
   rw [← Ydk] at e;exact Zbt.2 ⟨m, by omega, e⟩
 · right
   have : (pa L i).length = 1 := by omega
   obtain ⟨a, e⟩ := Yel.1 this;rw [e]; rfl
theorem pa_ne {L : List Line} (hr : Zab L = true) {i : Nat} (hi : i < L.length) : pa L i ≠ [] := fun e => by
 have := Zbw (Zad hr).2.1 hi;rw [e] at this; simp at this
end Sch
namespace Go.Proofs.Zq
open Tryz
open Go Go.RowKit Tre
theorem Zjx (w : World) (o : Obj) : Below w.heap.size w (w.alloc o) := (Yac _ _).alloc (Yaf _) _
theorem Zarr (w : World) (cs : Array Value) (T : TypeId) : ∀ j z, cs.toList[j]? = some z → (w.alloc (.cells cs T)).cell? ((⟨w.heap.size, 0, none⟩ : Addr).add j) = some z := fun j z hz => by
 rw [Zae, Ybf, World.cell?_alloc_at _ _ _ _ rfl];simpa using hz
theorem Zxi {P : Program} {ops : Array Oper} {o : Oper} {a : Act} {K : Act → World → Prop} {Q : Exit → Act → World → Prop} {E : Prop} (hgd : o.guard = none) (s x : Operand) (t : TypeId)
 (ho : o.op = .call { callee := .builtin .append, args := #[s, x], argTypes := #[t, t] }) (e : TypeId) (i : TypeInfo) (z : Value) (ht : P.underlying t = some (.slice e)) (hi : P.info? e = some i) (hz : i.zero = some z)
 (hsize : i.size = 1) (hby : i.bytes = 16) (hzs : z.cells.size = 1) {w0 w : World} {v : Value} {L : List ByteArray} (hs : a.eval s = v) (hown : w.ownsRow w0.heap.size e 1 v L.length (sv L)) (hb : Below w0.heap.size w0 w) (hL : L.length ≤ 1000000)
 (u : ByteArray) (ad : Addr) (c : Nat) (hx : a.eval x = .slice (some ad) 1 c) (hc : w.cell? ad = some (.string u))
 (h : ∀ g c' w', Pv w' (.slice (some ⟨g, 0, none⟩) (L.length + 1) c') (L ++ [u]) → Below w0.heap.size w0 w' → K (a.put o.dst (.slice (some ⟨g, 0, none⟩) (L.length + 1) c')) w') :
 if Region.wanted o (yielded ops a.tmps) = true then Oper.wp P o a w K Q else E := by
 refine step_append_lies w hgd s x t ho w0.heap.size e i z 1 16 ht hi hz hsize hby hzs (by decide) v L.length (sv L) hs hown ad 1 c [.string u] hx rfl ?_ ?_ (by decide) (by unfold maxLen; omega) (by omega) hb.size w.heap.size rfl ?_
 · intro j y hy;obtain ⟨rfl, rfl⟩ : j = 0 ∧ y = .string u := by
    have := (Yba.1 hy).1;simp at this;subst this;simp at hy;exact ⟨rfl, hy.symm⟩
   have hs := World.cell?_spot hc;obtain ⟨B, O, sp⟩ := ad;obtain rfl : sp = none := hs;rw [Zae]; exact hc
 · intro y hy;rw [Yce.1 hy]; rfl
 · intro g cap w' h2 h3 h4 h5;have h2' := h2;have hl : (L ++ [u]).length = L.length + 1 := by simp
   refine h g cap w' ?_ (hb.grown h3 hb.size fun q hq => (hown.lt q hq).1)
   rw [show sv L ++ [Value.string u] = sv (L ++ [u]) by rw [Zasu]; rfl] at h2'
   obtain ⟨A, c', e', h6, h7, h8, -⟩ := Zct h2';injection e' with e1 e2 e3
   subst e1 e3;exact ⟨g, cap, by rw [hl], by rw [hl]; exact h6, h7, by rw [hl]; omega, by rw [hl]; exact h8⟩
theorem Zajc {P : Program} {ops : Array Oper} {o : Oper} {a : Act} {K : Act → World → Prop} {Q : Exit → Act → World → Prop} {E : Prop} (hgd : o.guard = none) (s x : Operand) (t : TypeId)
 (ho : o.op = .call { callee := .builtin .append, args := #[s, x], argTypes := #[t, t] }) (e : TypeId) (i : TypeInfo) (z : Value) (k bytes : Nat) (ht : P.underlying t = some (.slice e)) (hi : P.info? e = some i) (hz : i.zero = some z)
 (hsize : i.size = k) (hby : i.bytes = bytes) (hzs : z.cells.size = k) (hsz : 0 < k) (hb64 : bytes ≤ 64) {w0 w : World} {v : Value} {xs : List Item} (hs : a.eval s = v) (hown : Pl w w0.heap.size e k v xs) (hb : Below w0.heap.size w0 w)
 (u : Value) (y : Item) (hy : y.2.length + 1 = k) (hy1 : ∀ c ∈ y.2, c.oneCell' = true) (hu : Pv w u y.1) (ad : Addr) (c : Nat) (hx : a.eval x = .slice (some ad) 1 c) (hc : ∀ j z, (u :: y.2)[j]? = some z → w.cell? (ad.add j) = some z) (hN : xs.length + 1 ≤ 1000000000)
 (h : ∀ v' w', Pl w' w0.heap.size e k v' (xs ++ [y]) → Below w0.heap.size w0 w' → K (a.put o.dst v') w') :
 if Region.wanted o (yielded ops a.tmps) = true then Oper.wp P o a w K Q else E := by
 have hbytes : (xs.length + 1) * bytes ≤ 140737488355328 := Yas (Ydm hN hb64) (by decide)
 have hP := hown;obtain ⟨-, -, vs, h3, h4⟩ := hP;refine step_append_lies w hgd s x t ho w0.heap.size e i z k bytes ht hi hz hsize hby hzs hsz v xs.length (Zdh vs xs) hs h4 ad 1 c (u :: y.2) hx (by simp; omega) hc ?_ (by decide) (by unfold maxLen; omega) hbytes hb.size w.heap.size rfl ?_
 · intro c hc;rcases Yaw.1 hc with rfl | hc
   · exact hu.one
   · exact hy1 c hc
 · intro g cap w' h2 hg _ _;refine h _ w' ?_ (hb.grown hg hb.size fun q hq => (h4.lt q hq).1)
   refine ⟨fun c hc => ?_, fun e => by simp at e, vs ++ [u], ?_, ?_⟩
   · rcases Ybm.1 hc with hc | hc
     · exact hown.1 c hc
     · rw [Yce.1 hc]; exact hy
   · have e1 : Pvs w' vs xs := ⟨h3.1, fun i hi hv => (h3.2 i hi hv).kept hg (Zhm hown hsz (h3.2 i hi hv))⟩
     exact e1.append (Pvs.single (hu.kept hg (Zhm hown hsz hu)))
   · rw [Zfp h3.1, Ztr, Yaj];exact h2
open Go.Sort Sch Adr Mtr
theorem Zaij : ∀ r ∈ Zak, r.one = true → r.path.length = 3 := by decide +kernel
theorem Zajy {L : List Line} {i : Nat} {r : Rule} {P : List ByteArray} (hr : r ∈ Zak) (hl : r.path.length = P.length) : Zeb P = [] ∨ oneF L i r P = [] := by
 cases h : r.one with
 | false => exact .inr (Zauf h)
 | true => exact .inl (Zabx (by rw [← hl, Zaij r hr h]; decide))
theorem Zarw (A : Option Addr) (cap : Nat) (L : List Line) (i : Nat) (Ar : Option Addr) (cr : Nat) (r : Rule) (b c pb pc : Nat) (P : List ByteArray) (w : World) (hE : Env w) (hR : Rd w 3 A L.length (lines L)) (hcap : L.length ≤ cap) (hc : cap ≤ maxLen) (hr : Zab L = true) (hi : i < L.length)
 (hRu : Zoe w Ar) (hru : r ∈ Zak) (hrd : Rd w 1 (some ⟨b, 0, none⟩) r.path.length (sv r.path)) (hrc : r.path.length ≤ c) (hPv : Pv w (.slice (some ⟨pb, 0, none⟩) P.length pc) P) (hPl : r.path.length = P.length) (hpl : P.length ≤ 100) (hps : Shw P) :
 Calls prog 49 #[.slice A L.length cap, .int .i64 i, .slice Ar 34 cr, .agg #[.slice (some ⟨b, 0, none⟩) r.path.length c, .bool r.one, .bool r.needed], .slice (some ⟨pb, 0, none⟩) P.length pc] w (Zauj (Zrq L i r P) w) := by
 obtain ⟨i0, hii, hz0, hz1, hz2⟩ := info_parts Ztx;obtain ⟨s0, hsi, sz0, sz1, sz2⟩ := info_parts Zdx;obtain ⟨wb, hwb⟩ : ∃ wb, w.heap.size = wb := ⟨_, rfl⟩;obtain ⟨w0, hw0⟩ : ∃ w0, (w.alloc (.cells #[.slice A L.length cap] 25)).alloc (.cells #[.slice (some ⟨b, 0, none⟩) r.path.length c, .bool r.one, .bool r.needed] 99) = w0 := ⟨_, rfl⟩;have hb0 : Below w.heap.size w w0 := by rw [← hw0]; exact ((Yac _ _).alloc (Yaf _) _).alloc (by simp) _
 have hsz : w0.heap.size = wb + 2 := by rw [← hw0, ← hwb]; simp
 have t0 : w0.cell? ⟨wb, 0, none⟩ = some (.slice A L.length cap) := by
  rw [← hw0, ← hwb, World.cell?_alloc_lt _ _ _ (by simp), World.cell?_alloc_at _ _ _ _ rfl]; rfl
 have r0 : w0.cell? ⟨wb + 1, 0, none⟩ = some (.slice (some ⟨b, 0, none⟩) r.path.length c) := by rw [← hw0, World.cell?_alloc_at _ _ _ _ (by simp [hwb])]; rfl
 have r1 : w0.cell? ⟨wb + 1, 1, none⟩ = some (.bool r.one) := by rw [← hw0, World.cell?_alloc_at _ _ _ _ (by simp [hwb])]; rfl
 have h200 := Zas hr;have hE0 := hE.below hb0;have hR0 := hR.below hb0;have hRu0 := hRu.below hb0;have hrd0 := hrd.below hb0;have hPv0 := hPv.below hb0;have HKi := _root_.Zhd (Znj A cap L i w0 hR0 hcap hc hr hi);have HNe := _root_.Zhd (fun W (hb : Below w0.heap.size w0 W) => Zajw Ar cr (some ⟨pb, 0, none⟩) pc P W (hE0.below hb) (hRu0.below hb) (hPv0.rd.1.below hb) (by omega) hps)
 have HMe := _root_.Zhd (fun W (hb : Below w0.heap.size w0 W) => Zaly A cap L i b c r (some ⟨pb, 0, none⟩) pc P W (hE0.below hb) (hR0.below hb) hcap hc hr (by omega) hru (hrd0.below hb) hrc (hPv0.rd.1.below hb) hPl (by omega) hps)
 have HCl := _root_.Zhd (fun W (hb : Below w0.heap.size w0 W) => Tryz.slices_Clone_string pb 0 P.length pc P W (Yaf _) (by omega) (fun j hj => by
  have := (hPv0.rd.1.below hb).2 (by omega)
  obtain ⟨ad, e, -, hx⟩ := this;injection e with e
  subst e;have h2 := hx j _ (Zja hj);rw [Zae] at h2;rw [h2, Yap, Yag hj]; rfl))
 have HHK := _root_.Zhd (fun W (hb : Below w0.heap.size w0 W) pw s (hw : W.cell? ⟨pw, 0, none⟩ = some (.string s)) Ak ck (hRk : Rd W 1 Ak (kidsB L i).length (iv (kidsB L i))) (hkl : (kidsB L i).length ≤ 100000) =>
  Zafk A cap L wb pw s Ak ck (kidsB L i) W (hR0.below hb) hc hcap (fun k hk => by have := Zba.1 hk; have h2 := Zbb L i hi; omega) ((hb.cell (p := ⟨wb, 0, none⟩) (by show wb < _; omega)).trans t0) hw hRk hkl)
 have HPv : Hid (Pv w0 (.slice (some ⟨pb, 0, none⟩) P.length pc) P) := hPv0
 have hkl : (kidsB L i).length ≤ 200 := by
  have h1 := kidsTo_len L (Zan L i + 1) (i + 1) (endB L i);have h2 := Zbb L i hi;unfold kidsB; omega
 have HF1 := _root_.Zhd (Ztf L i r P);have HLF : Hid (Zrq L i r P = oneF L i r P ++ Zgi L i P (Zeb P) ++ Ztb L i r P) := rfl;have HMF : Hid (Ztb L i r P = if Zgw L i r.path P then [(P, 7)] else []) := rfl
 have HKH : Hid (∀ s, Zaee L i s = (kidsB L i).any (Zlh L s)) := fun s => rfl
 have HFW := _root_.Zhd (Zajy (L := L) (i := i) hru hPl);have HNL : Hid ((Zeb P).length ≤ 34) := by have := Zlv P 34; rw [Zmb] at this; exact this
 have HB := _root_.Zhd hb0;have HSZ := _root_.Zhd hsz;have HWB := _root_.Zhd hwb;have HT0 := _root_.Zhd t0;have HR0 := _root_.Zhd r0;have HR1 := _root_.Zhd r1;clear hE hR hRu hru hrd hrc hPv hPl hps hb0 hsz t0 r0 r1 hE0 hR0 hRu0 hrd0 hPv0 hr hi
 have HF1L : Hid ((oneF L i r P).length ≤ 1) := by
  rcases HF1.out with ⟨-, h⟩ | ⟨-, -, h⟩ | ⟨-, -, h⟩ | ⟨-, -, h⟩ <;> (show _ ≤ _; rw [h]; simp)
 generalize oneF L i r P = F0 at *;generalize Ztb L i r P = F2 at *;generalize Zgw L i r.path P = mb at *;generalize Zeb P = W at *;unfold Zgp at HKi;generalize kidsB L i = K at *;obtain ⟨ro, hro⟩ : ∃ ro, r.one = ro := ⟨_, rfl⟩;rw [hro] at hw0 HR1 HF1 ⊢;clear hro;have t0 := HT0.out;go_enter func49, ntmps49;go_wp2_with fail;clear t0;refine HKi.out.mono ?_;rintro e w1 ⟨Ak, ck, rfl, hk1, hk2, hrk, hb1⟩;have r1 := (hb1.cell (p := ⟨wb + 1, 1, none⟩) (by show wb + 1 < _; rw [HSZ.out]; omega)).trans HR1.out
 have HPv1 := _root_.Zhd (HPv.out.below hb1);have HB1 := _root_.Zhd hb1;have HRk := _root_.Zhd hrk;clear HKi HR1 hb1 hrk;go_upto_block 0 with fail
 go_cut [11, 12] (fun v y wx => Pl wx w0.heap.size 104 2 v (F0.map Zdt) ∧ Below w0.heap.size w0 wx ∧ Below w1.heap.size w1 wx ∧ y = .slice Ak K.length ck)
 case first =>
  rcases HF1.out with ⟨rfl, h2⟩ | ⟨rfl, hk, h2⟩ | ⟨rfl, hk, h2⟩ | ⟨rfl, hk, h2⟩
  · have HH := _root_.Zhd h2;clear h2;go_wp2_with fail;go_meet
    case rel => rw [HH.out]; exact ⟨Pl.nil _ _ _ _, HB1.out, Yac _ _, rfl⟩
  · have HH := _root_.Zhd h2;clear h2;go_wp2_with (at_builtin; refine Zmm rfl _ _ 71 rfl w1 w1 104 i0 _ 2 32 underlying71 hii hz0 hz1 hz2 rfl (by decide) (by decide) (Pl.nil _ _ _ _) (Yac _ _) rfl (.slice (some ⟨pb, 0, none⟩) P.length pc) (Zdt (P, 1)) rfl (Zet _) HPv1.out rfl (by simp) ?_; intro v' w' hown' hb')
    go_meet
    case rel => rw [HH.out]; exact ⟨hown'.base HB1.out.size, HB1.out.trans (hb'.mono HB1.out.size), hb', by rw [hk]⟩
  · have HH := _root_.Zhd h2;clear h2;go_wp2_with fail;go_meet
    case rel => rw [HH.out]; exact ⟨Pl.nil _ _ _ _, HB1.out, Yac _ _, by rw [hk]⟩
  · have HH := _root_.Zhd h2;have hk0 : ¬ K.length = 0 := by omega
    have hki : (1 : Int) < (K.length : Int) := by omega
    clear h2;go_wp2_with (at_builtin; refine Zmm rfl _ _ 71 rfl w1 w1 104 i0 _ 2 32 underlying71 hii hz0 hz1 hz2 rfl (by decide) (by decide) (Pl.nil _ _ _ _) (Yac _ _) rfl (.slice (some ⟨pb, 0, none⟩) P.length pc) (Zdt (P, 4)) rfl (Zet _) HPv1.out rfl (by simp) ?_; intro v' w' hown' hb')
    go_meet
    case rel => rw [HH.out]; exact ⟨hown'.base HB1.out.size, HB1.out.trans (hb'.mono HB1.out.size), hb', rfl⟩
 case rest =>
  clear HF1 r1 HPv1;obtain ⟨hP2, hb2, hb12, rfl⟩ := hcut;have HP2 := _root_.Zhd hP2;have HB2 := _root_.Zhd hb2;have HRk2 := _root_.Zhd (HRk.out.below hb12);clear hP2 hb2 hb12 HRk HB1;go_wp2_with fail;refine (HNe.out wc HB2.out).mono ?_;rintro e w3 ⟨An, cn, rfl, hn1, hn2, hrn, -, hb3⟩;have HB3 := _root_.Zhd (Zaa HB2.out hb3);have HP3 := _root_.Zhd (HP2.out.below hb3);have HRk3 := _root_.Zhd (HRk2.out.below hb3);have HRn := _root_.Zhd hrn;have hwl := HNL.out;clear HNe HP2 HB2 HRk2 hb3 hrn;have HMW : Hid ((Zgi L i P W).length ≤ W.length) := Znm L i P W;go_upto_block 1 with fail
  go_cut [11] (fun v wx => Pl wx w0.heap.size 104 2 v ((F0 ++ Zgi L i P W).map Zdt) ∧ Below w0.heap.size w0 wx)
  case first =>
   rcases HFW.out with rfl | rfl
   · have HX : Hid (((F0 ++ Zgi L i P []).map Zdt) = F0.map Zdt) := by show _ = _; simp [Zgi]
     clear HFW HHK HRk3 HRn;go_wp2_with fail;go_loopw [11, 48] (fun v vi wr => vi = .int .i64 0 ∧ Hid (Pl wr w0.heap.size 104 2 v (F0.map Zdt)) ∧ Hid (Below w0.heap.size w0 wr)) (fun _ _ _ => 0)
     case atStart => exact ⟨rfl, HP3, HB3⟩
     case round =>
      obtain ⟨rfl, HP, HB⟩ := hrel;go_wp2_with fail;go_meet
      case rel => rw [HX.out]; exact ⟨HP.out, HB.out⟩
   · obtain rfl : u11 = .slice none 0 0 := HP3.out.2.1 rfl;clear HFW HP3;go_wp2_with fail;go_loopw [11, 48] (fun v vi wr => ∃ k : Nat, k ≤ W.length ∧ vi = .int .i64 k ∧ Hid (Pl wr w3.heap.size 104 2 v ((Zgi L i P (W.take k)).map Zdt)) ∧ Hid (Below w3.heap.size w3 wr)) (fun _ vi _ => W.length - (intOf vi).toNat)
     case atStart => exact ⟨0, Yav _, rfl, by show Pl _ _ _ _ _ _; simpa [Zgi] using Pl.nil _ _ _ _, Yac _ _⟩
     case round =>
      obtain ⟨k, hk, rfl, HP, HB⟩ := hrel;by_cases hlt : k < W.length
      · obtain ⟨B, O, rfl, hab, hadd, x0⟩ := (HRn.out.below HB.out).strAt hlt
        have hst : Hid (Zgi L i P (W.take (k + 1)) = Zgi L i P (W.take k) ++ (if K.any (Zlh L W[k]) then [] else [(P ++ [W[k]], 1)])) := by
         show _ = _;rw [Yau hlt, Zagk, HKH.out]
        have hlen : Hid ((Zgi L i P (W.take k)).length ≤ k) := by
         have := Znm L i P (W.take k);rw [Yad] at this;show _ ≤ _; omega
        generalize W[k] = s at *;generalize Zgi L i P (W.take k) = M at *;obtain ⟨q, hq⟩ : ∃ q, wr.heap.size = q := ⟨_, rfl⟩;obtain ⟨wo, hwo⟩ : ∃ wo, wr.alloc (.cells #[.string s] 9) = wo := ⟨_, rfl⟩;have hbo : Below wr.heap.size wr wo := by rw [← hwo]; exact (Yac _ _).alloc (Yaf _) _
        have y0 : wo.cell? ⟨q, 0, none⟩ = some (.string s) := by rw [← hwo, World.cell?_alloc_at _ _ _ _ hq.symm]; rfl
        have HBo := _root_.Zhd (Zaa HB.out hbo);have HPo := _root_.Zhd (HP.out.below hbo);have HY := _root_.Zhd y0;have HC := _root_.Zhd (HHK.out wo (Zaa HB3.out HBo.out) q s y0 Ak ck (HRk3.out.below HBo.out) (by omega))
        have hql : q < wo.heap.size := by rw [← hwo, ← hq]; simp
        generalize K.any (Zlh L s) = kb at *;clear hbo y0 HP HB;cases kb with
        | true =>
          have hs2 : Hid (Zgi L i P (W.take (k + 1)) = M) := by show _ = _; rw [hst.out]; simp
          clear hst;go_wp2_with fail;refine HC.out.mono ?_;rintro e w4 ⟨rfl, hb4⟩;have HB4 := _root_.Zhd (Zaa HBo.out hb4);have HP4 := _root_.Zhd (HPo.out.below hb4);clear HC hb4 HBo HPo hwo x0;go_wp2_with fail;go_roundw
          case rel => exact ⟨k + 1, by omega, by go_num, by show Pl _ _ _ _ _ _; rw [hs2.out]; exact HP4.out, HB4⟩
          case measure => simp [intOf]; omega
        | false =>
          have hs2 : Hid (Zgi L i P (W.take (k + 1)) = M ++ [(P ++ [s], 1)]) := by show _ = _; rw [hst.out]; simp
          clear hst;go_wp2_with fail;refine HC.out.mono ?_;rintro e w4 ⟨rfl, hb4⟩;have HB4 := _root_.Zhd (Zaa HBo.out hb4);have HP4 := _root_.Zhd (HPo.out.below hb4);have HY4 := _root_.Zhd ((hb4.cell (p := ⟨q, 0, none⟩) hql).trans HY.out);have y4 := HY4.out;clear HC hb4 HBo HPo hwo x0 HY hql;have HB04 := _root_.Zhd (Zaa HB3.out HB4.out)
          have HCL : Hid (∀ W, Below w4.heap.size w4 W → Calls prog 92 #[.slice (some ⟨pb, 0, none⟩) P.length pc] W fun e w' => ∃ v', e = .returned v' ∧ w'.ownsRow w4.heap.size 9 1 v' P.length (sv P) ∧ Below w4.heap.size w4 w' ∧ Below W.heap.size W w') := fun W hb =>
           (HCl.out W (Zaa HB04.out hb)).mono fun e w' ⟨v', h1, h2, _, h4⟩ => ⟨v', h1, by rw [Ybw] at h2; exact Zkv h2 hb.size, Zaa hb h4, h4⟩
          have HPF := HP4;have HLP : P.length ≤ 1000000 := by omega
          have HLI : Hid ((M.map Zdt).length + 1 ≤ 1000000000) := by
           have h2 := hlen.out;show _ ≤ _;rw [Yax]; omega
          have HQ4 := _root_.Zhd (Lib.lt_of_cell y4);clear HCl HNL HLF HKH;go_upto_region 11 with fail
          go_region_law (first
           | (go_simp; go_at_call 92; refine Calls.mono (HCL.out _ (Yac _ _).drew) ?_; rintro e wcl ⟨vc, rfl, hoc, hbc, hbw⟩; have HOc := _root_.Zhd hoc; have HBc := _root_.Zhd hbc; have HLc := _root_.Zhd hbw; have yc := (hbc.cell (p := ⟨q, 0, none⟩) HQ4.out).trans y4; clear hoc hbc hbw)
           | (go_simp; go_at_call 92; refine Calls.mono (HCL.out _ ((Yac _ _).alloc (Yaf _) _).drew) ?_; rintro e wcl ⟨vc, rfl, hoc, hbc, hbw⟩; have HOc := _root_.Zhd hoc; have HBc := _root_.Zhd hbc; have HLc := _root_.Zhd hbw; have yc := (hbc.cell (p := ⟨q, 0, none⟩) HQ4.out).trans y4; clear hoc hbc hbw)
           | (refine Zxi rfl (.tmp 58) (.tmp 60) 33 rfl 9 s0 _ underlying33 hsi sz0 sz1 sz2 rfl (w0 := w4) rfl HOc.out HBc.out HLP s _ 1 rfl ((HLc.out.cell (p := ⟨w4.heap.size, 0, none⟩) (by simp)).trans (by simp)) ?_; intro g c' w5 hpv hb5)
           | (refine Zxi rfl (.tmp 58) (.tmp 60) 33 rfl 9 s0 _ underlying33 hsi sz0 sz1 sz2 rfl (w0 := w4) rfl (Zah HOc.out (Zjx _ _)) (Zaa HBc.out (Zjx _ _)) HLP s _ 1 rfl (World.cell?_alloc_at _ _ _ _ rfl) ?_; intro g c' w5 hpv hb5)
           | (refine Zajc rfl (.tmp 56) (.tmp 63) 71 rfl 104 i0 _ 2 32 underlying71 hii hz0 hz1 hz2 rfl (Nat.succ_pos 1) (Nat.le_of_ble_eq_true rfl) (w0 := w3) rfl (HPF.out.below (Zaa hb5 (Zjx _ _))) (Zaa HB4.out (Zaa hb5 (Zjx _ _))) _ (Zdt (P ++ [s], 1)) rfl (Zet _) (hpv.below (Zjx _ _)) _ 1 rfl (Zarr _ _ _) HLI.out ?_; intro v6 w6 hP6 hb6))
          all_goals
           have HPN : Hid (Pl w6 w3.heap.size 104 2 v6 ((Zgi L i P (W.take (k + 1))).map Zdt)) := by show Pl _ _ _ _ _ _; rw [hs2.out, Ybs]; exact hP6
           have HBN := _root_.Zhd hb6;clear hs2 hpv hb5 hP6 hb6 HOc HBc HLc yc y4 HY4 HCL;go_wp2_with fail;go_roundw
           case rel => exact ⟨k + 1, by omega, by go_num, HPN, HBN⟩
           case measure => simp [intOf]; omega
      · obtain rfl : k = W.length := by omega
        have HPN := HP.out;rw [Ybw] at HPN;have HBN := _root_.Zhd (Zaa HB3.out HB.out);have HPM := _root_.Zhd (HPN.base HB3.out.size);clear HP HB HPN;go_wp2_with fail;go_meet
        case rel => exact ⟨HPM.out, HBN.out⟩
  case rest =>
   clear HFW HHK HRk3 HRn HP3 HB3 HCl HKH HMW hn1 hn2 hk1 hk2;obtain ⟨hP5, hb5⟩ := hcut;have HP5 := _root_.Zhd hP5;have HB5 := _root_.Zhd hb5;have t5 := (hb5.cell (p := ⟨wb, 0, none⟩) (by show wb < _; rw [HSZ.out]; omega)).trans HT0.out
   have r5 := (hb5.cell (p := ⟨wb + 1, 0, none⟩) (by show wb + 1 < _; rw [HSZ.out]; omega)).trans HR0.out
   clear hP5 hb5
   have HML : Hid (((F0 ++ Zgi L i P W).map Zdt).length + 1 ≤ 1000000000) := by
    have h1 := HF1L.out;have h2 := Znm L i P W;show _ ≤ _;rw [Yax, Yaj]; omega
   have HLF2 : Hid (Zrq L i r P = F0 ++ Zgi L i P W ++ F2) := HLF.out;generalize Zgi L i P W = M at *;clear HLF;go_wp2_with fail;refine (HMe.out _ HB5.out).mono ?_;rintro e w6 ⟨rfl, hb6⟩;have HB6 := _root_.Zhd (Zaa HB5.out hb6);have HP6 := _root_.Zhd (HP5.out.below hb6);have HPv6 := _root_.Zhd (HPv.out.below HB6.out);clear HMe HP5 HB5 hb6 t5 r5;cases mb with
   | false =>
     have HX : Hid ((Zrq L i r P).map Zdt = (F0 ++ M).map Zdt) := by show _ = _; rw [HLF2.out, HMF.out]; simp
     clear HLF2 HMF;go_wp2_with fail;go_ret;refine ⟨⟨_, rfl, ?_⟩, Zaa HB.out HB6.out⟩;rw [HX.out];exact HP6.out.base HB.out.size
   | true =>
     have HX : Hid ((Zrq L i r P).map Zdt = (F0 ++ M).map Zdt ++ [Zdt (P, 7)]) := by show _ = _; rw [HLF2.out, HMF.out, Yan rfl, Ybs (l₁ := F0 ++ M)]; rfl
     clear HLF2 HMF;go_wp2_with (at_builtin; refine Zmm rfl _ _ 71 rfl w0 w6 104 i0 _ 2 32 underlying71 hii hz0 hz1 hz2 rfl (by decide) (by decide) HP6.out HB6.out rfl (.slice (some ⟨pb, 0, none⟩) P.length pc) (Zdt (P, 7)) rfl (Zet _) HPv6.out rfl HML.out ?_; intro v' w' hown' hb')
     go_ret;refine ⟨⟨_, rfl, ?_⟩, Zaa HB.out hb'⟩;rw [HX.out];exact hown'.base HB.out.size
end Go.Proofs.Zq
