import Derived.Sort.Walk0
import Derived.Lib.Repeat
import Derived.Lib.SlTrimSet
import Derived.Test.YtdamidelojccaaaGreatDoorJ10
namespace Tre
open Go
def nxt (p : List ByteArray) (l : Line) : List ByteArray := p.take l.depth.toNat ++ [l.word]
def Zbs (p : List ByteArray) : List Line → List (List ByteArray)
 | [] => []
 | l :: r => nxt p l :: Zbs (nxt p l) r
def Zaf (L : List Line) : List (List ByteArray) := Zbs [] L
def Zcr (p : List ByteArray) : List Line → Bool
 | [] => true
 | l :: r => Zbv l && decide (l.depth ≤ (p.length : Int)) && Zcr (nxt p l) r
def Zaai (p : List ByteArray) (l : Line) : Bool := decide (l.depth = (p.length : Int)) || Op.bytesLess (p.getD l.depth.toNat ⟨#[]⟩).toList l.word.toList
def Zih (p : List ByteArray) : List Line → Bool
 | [] => true
 | l :: r => Zaai p l && Zih (nxt p l) r
theorem Zdw {l : Line} (h : Zbv l = true) : 0 ≤ l.depth ∧ l.depth < 16 := by
 unfold Zbv at h; simp only [Yar, Yao] at h; exact ⟨h.1.1.1.1, h.1.1.1.2⟩
theorem Zuh {p : List ByteArray} {l : Line} (h0 : 0 ≤ l.depth) (h : l.depth ≤ (p.length : Int)) : ((nxt p l).length : Int) = l.depth + 1 := by
 unfold nxt; rw [Yaj, Yad]; simp; omega
theorem Zadp (a b : List UInt8) : (Op.bytesLess a b || a == b) = !(Op.bytesLess b a) := by
 rw [Proofs.bytesLess_eq, Proofs.bytesLess_eq, Ycj];simp only [Bool.or_eq_true, Yao, beq_iff_eq, Yer, decide_eq_false_iff_not];constructor
 · rintro (h | rfl) h2
   · exact Yej a (List.lt_trans h h2)
   · exact Yej a h2
 · intro h;rcases List.le_iff_lt_or_eq.1 (List.not_lt.1 h) with h | h
   · exact .inl h
   · exact .inr h
theorem Zaef : ∀ {L : List Line} {p : List ByteArray} {la : Nat → ByteArray}, (∀ (j : Nat) (h : j < p.length), la j = p[j]) → Zdd ((p.length : Int) - 1) la L = (Zcr p L && Zih p L)
 | [], p, la, h => rfl
 | l :: r, p, la, h => by
   unfold Zdd rgOk Zcr Zih Zaai;cases hs : Zbv l with
   | false => simp
   | true =>
     obtain ⟨d0, d1⟩ := Zdw hs;by_cases hd : l.depth ≤ (p.length : Int)
     · rw [Yal (p := l.depth ≤ (p.length : Int) - 1 + 1) (by omega), Yal hd]
       have hn := Zuh d0 hd
       have ih := Zaef (L := r) (p := nxt p l) (la := put la l.depth l.word) (fun j hj => by
        unfold put nxt at *;rw [Yaj, Yad] at hj;simp only [Yby] at hj;by_cases e : j = l.depth.toNat
        · rw [Yan e, Yec (by rw [Yad]; omega)]
          simp
        · rw [Yab e, Ydv (by rw [Yad]; omega), Yct]
          exact h j (by omega))
       rw [show ((nxt p l).length : Int) - 1 = l.depth by omega] at ih
       rw [ih];by_cases he : l.depth = (p.length : Int)
       · rw [Yae (p := l.depth ≤ (p.length : Int) - 1) (by omega), Yal he]
         simp
       · have hlt : l.depth.toNat < p.length := by omega
         rw [Yal (p := l.depth ≤ (p.length : Int) - 1) (by omega), Yae he, h _ hlt]
         have : p.getD l.depth.toNat ⟨#[]⟩ = p[l.depth.toNat] := by rw [Yap, Yag hlt]; rfl
         rw [this];unfold leB;rw [Zadp];cases Op.bytesLess p[l.depth.toNat].toList l.word.toList <;> simp
     · rw [Yae (p := l.depth ≤ (p.length : Int) - 1 + 1) (by omega), Yae hd]
       simp
theorem Zqk (L : List Line) : Zab L = (decide (L.length ≤ 200) && (Zcr [] L && Zih [] L)) := by
 unfold Zab;rw [← Zaef (L := L) (p := []) (la := fun _ => ⟨#[]⟩) (fun j h => by simp at h)]
 rfl
theorem Zen : ∀ (p : List ByteArray) (L : List Line), (Zbs p L).length = L.length
 | _, [] => rfl
 | p, l :: r => by unfold Zbs; rw [Ybi, Ybi, Zen]
theorem Zag (L : List Line) : (Zaf L).length = L.length := Zen _ _
theorem Zee : ∀ {p : List ByteArray} {L : List Line}, Zcr p L = true → ∀ (i : Nat) (h : i < L.length), Zbv L[i] = true ∧ ((Zbs p L)[i]'(by rw [Zen]; exact h)).length = L[i].depth.toNat + 1 ∧ 0 ≤ L[i].depth
 | _, [], _, i, h => absurd h (by simp)
 | p, l :: r, hd, i, h => by
   unfold Zcr at hd;simp only [Yar, Yao] at hd;obtain ⟨d0, d1⟩ := Zdw hd.1.1;cases i with
   | zero =>
     have := Zuh d0 hd.1.2;exact ⟨hd.1.1, by simp only [Zbs, Yek]; omega, d0⟩
   | succ i => simpa [Zbs] using Zee hd.2 i (by simpa using h)
theorem Zlm : ∀ (p : List ByteArray) (L : List Line) (i : Nat) (h : i + 1 < L.length), (Zbs p L)[i + 1]'(by rw [Zen]; exact h) = nxt ((Zbs p L)[i]'(by rw [Zen]; omega)) L[i + 1]
 | p, [], i, h => absurd h (by simp)
 | p, l :: r, 0, h => by
   cases r with
   | nil => simp at h
   | cons a r => rfl
 | p, l :: r, i + 1, h => by simpa [Zbs] using Zlm (nxt p l) r i (by simpa using h)
theorem Zoz : ∀ {p : List ByteArray} {L : List Line}, Zcr p L = true → ∀ (i : Nat) (h : i + 1 < L.length), L[i + 1].depth ≤ L[i].depth + 1
 | _, [], _, i, h => absurd h (by simp)
 | p, l :: r, hd, 0, h => by
   unfold Zcr at hd;simp only [Yar, Yao] at hd;obtain ⟨d0, d1⟩ := Zdw hd.1.1;cases r with
   | nil => simp at h
   | cons a r =>
     have h2 := hd.2;unfold Zcr at h2;simp only [Yar, Yao] at h2;have := Zuh d0 hd.1.2;show a.depth ≤ l.depth + 1;omega
 | p, l :: r, hd, i + 1, h => by
   unfold Zcr at hd;simp only [Yar, Yao] at hd;simpa using Zoz hd.2 i (by simpa using h)
theorem Zxu {L : List Line} (hd : Zcr [] L = true) (h : 0 < L.length) : L[0].depth = 0 := by
 cases L with
 | nil => simp at h
 | cons l r =>
   unfold Zcr at hd;simp only [Yar, Yao] at hd;obtain ⟨d0, d1⟩ := Zdw hd.1.1;have := hd.1.2;simp at this;show l.depth = 0;omega
def pa (L : List Line) (i : Nat) : List ByteArray := (Zaf L).getD i []
theorem Zfh {L : List Line} {i : Nat} (h : i < L.length) : pa L i = (Zaf L)[i]'(by rw [Zag]; exact h) := by
 unfold pa; rw [Yap, Yag (by rw [Zag]; exact h)]; rfl
section
variable {L : List Line} (hd : Zcr [] L = true)
include hd
theorem Zcf {i : Nat} (h : i < L.length) : 0 ≤ Zan L i ∧ Zan L i < 16 := by
 rw [Zaw h]; exact Zdw (Zee hd i h).1
theorem Zbw {i : Nat} (h : i < L.length) : (pa L i).length = (Zan L i).toNat + 1 := by
 rw [Zfh h, Zaw h]; exact (Zee hd i h).2.1
theorem Zkp {i : Nat} (h : i + 1 < L.length) : Zan L (i + 1) ≤ Zan L i + 1 := by
 rw [Zaw h, Zaw (by omega)]; exact Zoz hd i h
omit hd in
theorem Ziv {i : Nat} (h : i + 1 < L.length) : pa L (i + 1) = (pa L i).take (Zan L (i + 1)).toNat ++ [Zbd L (i + 1)] := by
 rw [Zfh h, Zfh (by omega : i < L.length), Zaw h, Zbi h]
 exact Zlm [] L i h
theorem Zuc (h : 0 < L.length) : Zan L 0 = 0 := by rw [Zaw h]; exact Zxu hd h
theorem Zsj (h : 0 < L.length) : pa L 0 = [Zbd L 0] := by
 rw [Zfh h, Zbi h];cases L with
 | nil => simp at h
 | cons l r => simp [Zaf, Zbs, nxt]
theorem Zqr {D : Nat} {i : Nat} : ∀ {k : Nat}, i ≤ k → k < L.length → (∀ m, i < m → m ≤ k → (D : Int) ≤ Zan L m) → (pa L k).take D = (pa L i).take D := by
 intro k
 induction k with
 | zero => intro h1 h2 _; rw [show i = 0 by omega]
 | succ k ih =>
   intro h1 h2 h3;by_cases e : i = k + 1
   · rw [e]
   · rw [Ziv h2];have hk := ih (by omega) (by omega) (fun m a b => h3 m a (by omega))
     have hD := h3 (k + 1) (by omega) (Yaf _)
     have hs := Zkp hd h2;have hl := Zbw hd (by omega : k < L.length)
     have hn := Zcf hd (by omega : k < L.length)
     rw [Ycd (by rw [Yad]; omega), Ycu, Ybb (by omega)]
     exact hk
theorem Zaqu {D : Nat} (hD : 1 ≤ D) : ∀ {k : Nat}, 0 < k → k ≤ L.length → (D : Int) ≤ Zan L (k - 1) + 1 →
 ∃ j, j < k ∧ Zbh L D k = (j : Int) ∧ Zan L j = (D : Int) - 1 ∧ (∀ m, j < m → m < k → (D : Int) ≤ Zan L m) ∧ pa L j = (pa L (k - 1)).take D := by
 intro k
 induction k with
 | zero => intro h; omega
 | succ k ih =>
   intro _ h2 h3;simp only [Yea] at h3 ⊢;unfold Zbh;by_cases h : (D : Int) ≤ Zan L k
   · rw [Yan h];have hk0 : k ≠ 0 := by
      rintro rfl;rw [Zuc hd (by omega)] at h
      omega
     have hs := Zkp hd (i := k - 1) (by omega)
     rw [show k - 1 + 1 = k by omega] at hs
     obtain ⟨j, a, b, c, d, e⟩ := ih (by omega) (by omega) (by omega)
     refine ⟨j, by omega, b, c, fun m x y => ?_, ?_⟩
     · rcases Ybp m k with hm | hm
       · exact d m x hm
       · rw [show m = k by omega]; exact h
     · rw [e];exact (Zqr hd (D := D) (i := k - 1) (k := k) (by omega) (by omega) (fun m x y => by rw [show m = k by omega]; exact h)).symm
   · rw [Yab h];have hl := Zbw hd (by omega : k < L.length)
     have hn := Zcf hd (by omega : k < L.length)
     exact ⟨k, by omega, rfl, by omega, fun m x y => by omega, by rw [Ybj (by omega)]⟩
theorem Zafq {i : Nat} (h0 : Zan L i = 0) : ∀ k, k ≤ L.length → Zbh L (Zan L i) k = -1 := by
 intro k
 induction k with
 | zero => intro _; rfl
 | succ k ih =>
   intro h;unfold Zbh;rw [Yan (by rw [h0]; exact (Zcf hd (by omega : k < L.length)).1)]
   exact ih (by omega)
theorem up_of {i : Nat} (h : i < L.length) (h0 : Zan L i ≠ 0) : ∃ j, j < i ∧ Zdl L i = (j : Int) ∧ Zan L j = Zan L i - 1 ∧ (∀ m, j < m → m ≤ i → Zan L i ≤ Zan L m) ∧ pa L i = pa L j ++ [Zbd L i] := by
 have hn := Zcf hd h;have hi0 : i ≠ 0 := by rintro rfl; exact h0 (Zuc hd h)
 have hs := Zkp hd (i := i - 1) (by omega)
 rw [show i - 1 + 1 = i by omega] at hs
 obtain ⟨D, hD⟩ : ∃ D : Nat, Zan L i = (D : Int) := ⟨(Zan L i).toNat, by omega⟩
 obtain ⟨j, a, b, c, d, e⟩ := Zaqu hd (D := D) (by omega) (k := i) (by omega) (by omega) (by omega)
 refine ⟨j, a, by unfold Zdl; rw [hD]; exact b, by omega, fun m x y => ?_, ?_⟩
 · rcases Ybp m i with hm | hm
   · rw [hD]; exact d m x hm
   · rw [show m = i by omega]; exact Int.le_refl _
 · have := Ziv (L := L) (i := i - 1) (by omega)
   rw [show i - 1 + 1 = i by omega, hD, Ybq] at this
   rw [this, e]
theorem Znw : ∀ {i : Nat}, i < L.length → Zek L i = pa L i := by
 intro i
 induction i using Nat.strongRecOn with
 | ind i ih =>
   intro h;by_cases h0 : Zan L i = 0
   · rw [Zalc L i (by unfold Zdl; exact Zafq hd h0 i (by omega))]
     rcases Ybn i with rfl | hp
     · exact (Zsj hd h).symm
     · have := Ziv (L := L) (i := i - 1) (by omega)
       rw [show i - 1 + 1 = i by omega, h0] at this
       rw [this]; rfl
   · obtain ⟨j, a, b, c, d, e⟩ := up_of hd h h0;rw [Zanv L i j b, ih j a (by omega), e]
theorem Zom {i : Nat} : ∀ {q : Nat}, i < L.length → 1 ≤ q → q ≤ (pa L i).length → ∃ m, m ≤ i ∧ pa L m = (pa L i).take q := by
 induction i using Nat.strongRecOn with
 | ind i ih =>
   intro q h h1 h2;by_cases hq : q = (pa L i).length
   · exact ⟨i, Yaf _, by rw [hq, Ybw]⟩
   · by_cases h0 : Zan L i = 0
     · have := Zbw hd h;rw [h0] at this;simp at this; omega
     · obtain ⟨j, a, b, c, d, e⟩ := up_of hd h h0;have hl : (pa L i).length = (pa L j).length + 1 := by rw [e]; simp
       obtain ⟨m, hm, hm2⟩ := ih j a (q := q) (by omega) h1 (by omega)
       exact ⟨m, by omega, by rw [hm2, e, Ycd (by omega)]⟩
end
def key (p : List ByteArray) : List (List UInt8) := p.map (·.toList)
def pLt (a b : List ByteArray) : Prop := key a < key b
theorem Zjj {a b : ByteArray} (h : a.toList = b.toList) : a = b := ByteArray.ext (Ydz.1 (by rwa [Lib.toList_data, Lib.toList_data] at h))
theorem Zby (a : List ByteArray) : ¬ pLt a a := Yej _
theorem Zcb {a b c : List ByteArray} (h : pLt a b) (k : pLt b c) : pLt a c := List.lt_trans h k
theorem Zaav (a : ByteArray) (l : List ByteArray) : pLt [] (a :: l) := List.Lex.nil
theorem Zpux {x : ByteArray} {a b : List ByteArray} : pLt (x :: a) (x :: b) ↔ pLt a b := by
 unfold pLt key;rw [List.map_cons, List.map_cons];constructor
 · intro h;cases h with
   | rel h => exact absurd h (Yej _)
   | cons h => exact h
 · exact fun h => List.Lex.cons h
theorem Zir {x y : ByteArray} {a b : List ByteArray} (h : x.toList < y.toList) : pLt (x :: a) (y :: b) := List.Lex.rel h
theorem Zeh {x y : ByteArray} {a b : List ByteArray} : pLt (x :: a) (y :: b) ↔ x.toList < y.toList ∨ x = y ∧ pLt a b := by
 constructor
 · intro h;by_cases e : x = y
   · subst e; exact .inr ⟨rfl, Zpux.1 h⟩
   · have h' : (x.toList :: key a) < (y.toList :: key b) := h;rcases List.cons_lt_cons_iff.1 h' with h' | ⟨h', -⟩
     · exact .inl h'
     · exact absurd (Zjj h') e
 · rintro (h | ⟨rfl, h⟩)
   · exact Zir h
   · exact Zpux.2 h
theorem Zkt (a : List ByteArray) (x : ByteArray) (l : List ByteArray) : pLt a (a ++ x :: l) := by
 induction a with
 | nil => exact Zaav _ _
 | cons y a ih => exact Zpux.2 ih
theorem Zfk {a b c : List ByteArray} : pLt (a ++ b) (a ++ c) ↔ pLt b c := by
 induction a with
 | nil => exact Iff.rfl
 | cons y a ih => rw [Ych, Ych, Zpux, ih]
theorem Zim (a : List ByteArray) : ¬ pLt a [] := by intro h; cases a <;> cases h
theorem Zajn {a b t : List ByteArray} (h1 : pLt a b) (h2 : pLt b (a ++ t) ∨ b = a ++ t) : ∃ s, b = a ++ s := by
 induction a generalizing b with
 | nil => exact ⟨b, rfl⟩
 | cons x a ih =>
   cases b with
   | nil => exact absurd h1 (Zim _)
   | cons y b =>
     rcases h2 with h2 | h2
     · rw [Ych, Zeh] at h2;rw [Zeh] at h1;rcases h1 with h1 | ⟨rfl, h1⟩
       · rcases h2 with h2 | ⟨rfl, h2⟩
         · exact absurd (List.lt_trans h1 h2) (Yej _)
         · exact absurd h1 (Yej _)
       · rcases h2 with h2 | ⟨-, h2⟩
         · exact absurd h2 (Yej _)
         · obtain ⟨s, rfl⟩ := ih h1 (.inl h2); exact ⟨s, rfl⟩
     · exact ⟨t, h2⟩
theorem Zawc {p : List ByteArray} {l : Line} (h0 : 0 ≤ l.depth) (h : l.depth ≤ (p.length : Int)) (hs : Zaai p l = true) : pLt p (nxt p l) := by
 unfold Zaai at hs;unfold nxt;simp only [Bool.or_eq_true, Yao] at hs;by_cases e : l.depth = (p.length : Int)
 · rw [e, Ybq, Ybw]; exact Zkt _ _ _
 · have hlt : l.depth.toNat < p.length := by omega
   have hb := hs.resolve_left e;rw [Yap, Yag hlt, Proofs.bytesLess_eq, Yao] at hb
   conv => lhs; rw [← Ybk l.depth.toNat p]
   rw [Yay hlt];exact Zfk.2 (Zir hb)
theorem Zki : ∀ {L : List Line} {p : List ByteArray}, Zcr p L = true → Zih p L = true → (∀ q ∈ Zbs p L, pLt p q) ∧ (Zbs p L).Pairwise pLt
 | [], p, _, _ => ⟨fun q h => (by cases h), List.Pairwise.nil⟩
 | l :: r, p, h1, h2 => by
   unfold Zcr at h1;unfold Zih at h2;simp only [Yar, Yao] at h1 h2;obtain ⟨d0, d1⟩ := Zdw h1.1.1;have hu := Zawc d0 h1.1.2 h2.1;obtain ⟨a, b⟩ := Zki h1.2 h2.2;unfold Zbs;refine ⟨fun q hq => ?_, Ycb.2 ⟨a, b⟩⟩
   rcases Yaw.1 hq with rfl | hq
   · exact hu
   · exact Zcb hu (a q hq)
theorem Zad {L : List Line} (h : Zab L = true) : L.length ≤ 200 ∧ Zcr [] L = true ∧ Zih [] L = true := by
 rw [Zqk] at h; simpa using h
theorem Zrs (L : List Line) : Zaf L = (List.range L.length).map (pa L) := by
 apply List.ext_getElem
 · rw [Zag]; simp
 · intro i h1 h2;rw [Ydj, List.getElem_range, Zfh (by rwa [Zag] at h1)]
theorem Zus {L : List Line} {D : Int} : ∀ (n k : Nat), n = L.length - k → k ≤ L.length → (∀ m, k ≤ m → m < Zcy L D k → D < Zan L m) ∧ (Zcy L D k < L.length → Zan L (Zcy L D k) ≤ D)
 | 0, k, h, hk => by
   obtain rfl : k = L.length := by omega
   rw [Zsi];exact ⟨fun m a b => by omega, fun h => by omega⟩
 | n + 1, k, h, hk => by
   have hlt : k < L.length := by omega
   by_cases hd : D < L[k].depth
   · rw [Zox hlt hd];obtain ⟨a, b⟩ := Zus (L := L) (D := D) n (k + 1) (by omega) (by omega)
     refine ⟨fun m x y => ?_, b⟩
     rcases Nat.eq_or_lt_of_le x with rfl | x
     · rw [Zaw hlt]; exact hd
     · exact a m x y
   · rw [Zpb hlt hd];exact ⟨fun m x y => by omega, fun _ => by rw [Zaw hlt]; omega⟩
theorem Ztd {L : List Line} {i k : Nat} (hi : i < L.length) (h1 : i < k) (h2 : k < endB L i) : Zan L i < Zan L k :=
 (Zus (L := L) (D := Zan L i) _ (i + 1) rfl (by omega)).1 k h1 h2
theorem Zrz {L : List Line} {i : Nat} (hi : i < L.length) (h : endB L i < L.length) : Zan L (endB L i) ≤ Zan L i :=
 (Zus (L := L) (D := Zan L i) _ (i + 1) rfl (by omega)).2 h
def isKid (p q : List ByteArray) : Bool := decide (q.length = p.length + 1) && decide (q.take p.length = p)
theorem Zmu {p q : List ByteArray} : isKid p q = true ↔ ∃ w, q = p ++ [w] := by
 unfold isKid;simp only [Yar, Yao];constructor
 · rintro ⟨h1, h2⟩;have h3 : (q.drop p.length).length = 1 := by rw [Yam]; omega
   obtain ⟨w, hw⟩ := Yel.1 h3
   exact ⟨w, by conv => lhs; rw [← Ybk p.length q]
                rw [h2, hw]⟩
 · rintro ⟨w, rfl⟩; simp
section
variable {L : List Line} (hr : Zab L = true)
include hr
theorem Zol {i k : Nat} (h : i < k) (hk : k < L.length) : pLt (pa L i) (pa L k) := by
 obtain ⟨-, hd, hs⟩ := Zad hr;have := (Zki hd hs).2;rw [Zfh (by omega : i < L.length), Zfh hk]
 exact Yds.1 this i k _ _ h
theorem Zacc {i k : Nat} (hi : i < L.length) (hk : k < L.length) (e : pa L i = pa L k) : i = k := by
 rcases Nat.lt_trichotomy i k with h | h | h
 · have := Zol hr h hk;rw [e] at this;exact absurd this (Zby _)
 · exact h
 · have := Zol hr h hi;rw [e] at this;exact absurd this (Zby _)
theorem Zdo {i k : Nat} (hi : i < L.length) (hk : k < L.length) : (∃ s, pa L k = pa L i ++ s) ↔ i ≤ k ∧ k < endB L i := by
 obtain ⟨-, hd, -⟩ := Zad hr;have hb := Zbb L i hi;have hl := Zbw hd hi;have hn := Zcf hd hi;constructor
 · rintro ⟨s, hs⟩;have h1 : i ≤ k := by
    rcases Ybp k i with h | h
    · exfalso;have hu := Zol hr h hi;rw [hs] at hu;cases s with
      | nil => rw [Ybg] at hu; exact Zby _ hu
      | cons x s => exact Zby _ (Zcb hu (Zkt _ _ _))
    · exact h
   refine ⟨h1, ?_⟩;rcases Ybp k (endB L i) with h | h
   · exact h
   · exfalso;have he : endB L i < L.length := by omega
     have ho := Zrz hi he;have hl2 := Zbw hd he;have hn2 := Zcf hd he;have hu := Zol hr (by omega : i < endB L i) he
     obtain ⟨t, ht⟩ := Zajn hu (t := s) (by
      rw [← hs];rcases Nat.eq_or_lt_of_le h with h | h
      · exact .inr (by rw [h])
      · exact .inl (Zol hr h hk))
     have hlen : (pa L (endB L i)).length ≤ (pa L i).length := by omega
     rw [ht, Yaj] at hlen;have : t = [] := Yaq (by omega)
     rw [this, Ybg] at ht;rw [ht] at hu;exact Zby _ hu
 · rintro ⟨h1, h2⟩
   have hk2 := Zqr hd (D := (pa L i).length) h1 hk (fun m a b => by
    have := Ztd hi a (by omega)
    rw [hl]; omega)
   rw [Ybw] at hk2;exact ⟨(pa L k).drop (pa L i).length, by conv => lhs; rw [← Ybk (pa L i).length (pa L k), hk2]⟩
theorem Zabd {i k : Nat} (hi : i < L.length) (hk : k < L.length) : isKid (pa L i) (pa L k) = true ↔ i + 1 ≤ k ∧ k < endB L i ∧ Zan L k = Zan L i + 1 := by
 obtain ⟨-, hd, -⟩ := Zad hr;have hl := Zbw hd hi;have hn := Zcf hd hi;have hl2 := Zbw hd hk;have hn2 := Zcf hd hk;rw [Zmu];constructor
 · rintro ⟨w, hw⟩;obtain ⟨a, b⟩ := (Zdo hr hi hk).1 ⟨_, hw⟩;have hlen : (pa L k).length = (pa L i).length + 1 := by rw [hw]; simp
   refine ⟨?_, b, by omega⟩
   rcases Nat.eq_or_lt_of_le a with rfl | h
   · omega
   · exact h
 · rintro ⟨a, b, c⟩;obtain ⟨s, hs⟩ := (Zdo hr hi hk).2 ⟨by omega, b⟩
   have hlen : (pa L k).length = (pa L i).length + s.length := by rw [hs]; simp
   obtain ⟨w, rfl⟩ := Yel.1 (by omega : s.length = 1)
   exact ⟨w, hs⟩
theorem Zgg {k : Nat} (hk : k < L.length) : (pa L k).getLastD ⟨#[]⟩ = Zbd L k := by
 obtain ⟨-, hd, -⟩ := Zad hr;rcases Ybn k with rfl | hp
 · rw [Zsj hd hk]; rfl
 · have := Ziv (L := L) (i := k - 1) (by omega)
   rw [show k - 1 + 1 = k by omega] at this
   rw [this]; simp
theorem Zgn {P : List ByteArray} : ∀ (n i p : Nat), n = L.length - i → i ≤ L.length → p < P.length → (∀ k, k < i → pa L k ≠ P.take (p + 1)) →
 (p = 0 ∨ ∃ j, j < i ∧ pa L j = P.take p ∧ ∀ m, j < m → m < i → (p : Int) ≤ Zan L m) →
 (∀ k, Zeq P p i (L.drop i) = some k → k < L.length ∧ pa L k = P) ∧ (Zeq P p i (L.drop i) = none → ∀ k, k < L.length → pa L k ≠ P)
 | 0, i, p, hn, hi, hp, ha, hb => by
   obtain ⟨-, hd, -⟩ := Zad hr;obtain rfl : i = L.length := by omega
   rw [Ydh];unfold Zeq;refine ⟨fun k h => (by cases h), fun _ k hk e => ?_⟩
   obtain ⟨m, hm, hm2⟩ := Zom hd hk (q := p + 1) (by omega) (by rw [e]; omega)
   exact ha m (by omega) (by rw [hm2, e])
 | n + 1, i, p, hn, hi, hp, ha, hb => by
   obtain ⟨-, hd, -⟩ := Zad hr;have hlt : i < L.length := by omega
   have hl := Zbw hd hlt;have hnn := Zcf hd hlt;rw [Yay hlt];unfold Zeq;rw [← Zaw hlt, ← Zbi hlt];have htake : (P.take (p + 1)).length = p + 1 := by rw [Yad]; omega
   by_cases h1 : Zan L i < (p : Int)
   · rw [Yan h1];refine ⟨fun k h => (by cases h), fun _ k hk e => ?_⟩
     obtain ⟨m, hm, hm2⟩ := Zom hd hk (q := p + 1) (by omega) (by rw [e]; omega)
     have hmi : ¬ m < i := fun h => ha m h (by rw [hm2, e])
     rcases hb with rfl | ⟨j, hj, hj2, hj3⟩
     · omega
     · obtain ⟨-, hke⟩ := (Zdo hr (i := j) (k := k) (by omega) hk).1 ⟨P.drop p, by rw [e, hj2, Ybk]⟩
       have hlj := Zbw hd (i := j) (by omega)
       have hnj := Zcf hd (i := j) (by omega)
       have hpl : (P.take p).length = p := by rw [Yad]; omega
       rw [hj2, hpl] at hlj;have := Ztd (L := L) (i := j) (k := i) (by omega) hj (by omega)
       omega
   · rw [Yab h1]
     have hkeep : p = 0 ∨ ∃ j, j < i + 1 ∧ pa L j = P.take p ∧ ∀ m, j < m → m < i + 1 → (p : Int) ≤ Zan L m := by
      rcases hb with h | ⟨j, a, b, c⟩
      · exact .inl h
      · refine .inr ⟨j, by omega, b, fun m x y => ?_⟩
        rcases Ybp m i with h | h
        · exact c m x h
        · rw [show m = i by omega]; omega
     by_cases h2 : (p : Int) < Zan L i
     · rw [Yan h2];refine Zgn n (i + 1) p (by clear ha hb hkeep; omega) (by clear ha hb hkeep; omega) hp (fun k hk => ?_) hkeep
       rcases Ybp k i with h | h
       · exact ha k h
       · rw [show k = i by omega]
         intro e; rw [e, htake] at hl; omega
     · rw [Yab h2];have hdp : Zan L i = (p : Int) := by omega
       have hpa : pa L i = P.take p ++ [Zbd L i] := by
        by_cases h0 : p = 0
        · subst h0;rcases Ybn i with rfl | hpos
          · rw [Zsj hd hlt]; rfl
          · have := Ziv (L := L) (i := i - 1) (by omega)
            rw [show i - 1 + 1 = i by omega, hdp] at this
            rw [this]; rfl
        · obtain ⟨j, a, b, c⟩ := hb.resolve_left h0;have := Ziv (L := L) (i := i - 1) (by omega)
          rw [show i - 1 + 1 = i by omega, hdp, Ybq] at this
          rw [this, Zqr hd (D := p) (i := j) (k := i - 1) (by omega) (by omega) (fun m x y => c m x (by omega)), b, Ycu, Nat.min_self]
       have hgetD : P.getD p ⟨#[]⟩ = P[p] := by rw [Yap, Yag hp]; rfl
       rw [hgetD];by_cases h3 : Zbd L i = P[p]
       · rw [Yab (by rw [h3]; simp)]
         have hpa2 : pa L i = P.take (p + 1) := by rw [hpa, h3, Yau hp]
         by_cases h4 : p + 1 = P.length
         · rw [Yan h4];have hP : pa L i = P := by rw [hpa2, h4, Ybw]
           exact ⟨fun k h => (by cases h; exact ⟨hlt, hP⟩), fun h => (by cases h)⟩
         · rw [Yab h4];refine Zgn n (i + 1) (p + 1) (by clear ha hb hkeep; omega) (by omega) (by omega) (fun k hk e => ?_) (.inr ⟨i, by omega, hpa2, fun m x y => by omega⟩)
           rcases Ybp k i with h | h
           · obtain ⟨m, hm, hm2⟩ := Zom hd (i := k) (by omega) (q := p + 1) (by omega) (by rw [e, Yad]; omega)
             refine ha m (by omega) ?_
             rw [hm2, e, Ycu, Ybb (by omega)]
           · rw [show k = i by omega] at e
             rw [e, Yad] at hl; omega
       · have hb2 : ((Zbd L i).toList == P[p].toList) = false := by
          rw [Yak];intro e; exact h3 (Zjj e)
         rw [Yan hb2];refine Zgn n (i + 1) p (by clear ha hb hkeep; omega) (by clear ha hb hkeep; omega) hp (fun k hk => ?_) hkeep
         rcases Ybp k i with h | h
         · exact ha k h
         · rw [show k = i by omega, hpa, Yau hp]
           intro e;have := List.append_cancel_left e;simp only [List.cons.injEq, and_true] at this;exact h3 this
theorem Zej {P : List ByteArray} {k : Nat} (h : Zar L P = some k) : k < L.length ∧ pa L k = P := by
 unfold Zar at h;split at h
 · cases h
 · exact (Zgn hr (P := P) _ 0 0 rfl (Yav _) (by omega) (fun k hk => by omega) (.inl rfl)).1 k (by rw [Yei]; exact h)
theorem Zafi {P : List ByteArray} (h : Zar L P = none) {k : Nat} (hk : k < L.length) : pa L k ≠ P := by
 obtain ⟨-, hd, -⟩ := Zad hr;unfold Zar at h;split at h
 · intro e;have := Zbw hd hk;have := Zcf hd hk;rw [e] at *;omega
 · exact (Zgn hr (P := P) _ 0 0 rfl (Yav _) (by omega) (fun k hk => by omega) (.inl rfl)).2 (by rw [Yei]; exact h) k hk
theorem Zum {k : Nat} (hk : k < L.length) : Zar L (pa L k) = some k := by
 cases h : Zar L (pa L k) with
 | none => exact absurd rfl (Zafi hr h hk)
 | some j =>
   obtain ⟨hj, e⟩ := Zej hr h;rw [Zacc hr hj hk e]
theorem Zfu {P : List ByteArray} : (Zar L P).isSome = true ↔ P ∈ Zaf L := by
 rw [Zrs, Yda];constructor
 · intro h;obtain ⟨k, hk⟩ := Option.isSome_iff_exists.1 h;obtain ⟨a, b⟩ := Zej hr hk;exact ⟨k, by simpa using a, b⟩
 · rintro ⟨k, hk, rfl⟩;rw [Zum hr (by simpa using hk)]; rfl
end
end Tre
namespace Mtr
open Go Go.Lib Adr
def Zfi (b : List UInt8) : Bool := decide (1 ≤ b.length) && decide (b.length ≤ 3) && b.all Zdc && !(hasSuffix b [48])
def Zjc (a : List UInt8) : Bool := Zjh a && decide (a.length ≤ 6)
def frac (b : List UInt8) : Nat := val b * 10 ^ (3 - b.length)
def dec (t : List UInt8) : Option Nat :=
 match t.dropWhile Zdc with
 | [] => if Zjc (t.takeWhile Zdc) then some (1000 * val (t.takeWhile Zdc)) else none
 | c :: b => if Zjc (t.takeWhile Zdc) && (c == 46 && Zfi b) then some (1000 * val (t.takeWhile Zdc) + frac b) else none
theorem Zadd {p : UInt8 → Bool} : ∀ {l : List UInt8}, l.all p = true → l.takeWhile p = l ∧ l.dropWhile p = []
 | [], _ => ⟨rfl, rfl⟩
 | c :: r, h => by
   simp only [Ycv, Yar] at h;rw [List.takeWhile_cons, List.dropWhile_cons, h.1];have := Zadd h.2;exact ⟨by simp [this.1], by simp [this.2]⟩
theorem Zow {p : UInt8 → Bool} {c : UInt8} {b : List UInt8} (hc : p c = false) : ∀ {l : List UInt8}, l.all p = true → (l ++ c :: b).takeWhile p = l ∧ (l ++ c :: b).dropWhile p = c :: b
 | [], _ => by simp [hc]
 | d :: r, h => by
   simp only [Ycv, Yar] at h;have := Zow (b := b) hc h.2;simp [h.1, this.1, this.2]
theorem Zgl {p : UInt8 → Bool} : ∀ (l : List UInt8), l = l.takeWhile p ++ l.dropWhile p := fun _l => List.takeWhile_append_dropWhile.symm
theorem Znt {a : List UInt8} (h : Zjc a = true) : a.all Zdc = true := by
 unfold Zjc at h; simp only [Yar] at h; exact ((Zhx a).1 h.1).2.2.1
theorem Zaxk : Zdc 46 = false := by decide
theorem Zalm (t : List UInt8) (h : (46 : UInt8) ∉ t) : dec t = if Zjc t then some (1000 * val t) else none := by
 unfold dec;split
 · rename_i hd;have ht : t.takeWhile Zdc = t := by have := Zgl (p := Zdc) t; rw [hd, Ybg] at this; exact this.symm
   rw [ht]
 · rename_i c b hd
   have hc : (c == 46) = false := by
    rw [Yak]; rintro rfl;refine h ?_;rw [Zgl (p := Zdc) t, hd]; simp
   have hn : Zjc t = false := by
    rw [Ycy]; intro ht;have := (Zadd (Znt ht)).2;rw [this] at hd; cases hd
   rw [hc, hn]; simp
theorem Zyk (b : List UInt8) : ∀ a : List UInt8, (46 : UInt8) ∉ a → a.all Zdc = false → ∃ c r, (a ++ 46 :: b).dropWhile Zdc = c :: r ∧ c ≠ 46
 | [], _, h => by simp at h
 | d :: a, hn, h => by
   rw [Yaw, not_or] at hn;by_cases hd : Zdc d = true
   · rw [Ycv, hd, Ydr] at h;obtain ⟨c, r, e, hc⟩ := Zyk b a hn.2 h;exact ⟨c, r, by rw [Ych, List.dropWhile_cons, hd]; exact e, hc⟩
   · exact ⟨d, a ++ 46 :: b, by rw [Ych, List.dropWhile_cons, Yab hd], fun e => hn.1 e.symm⟩
theorem Zalb (a b : List UInt8) (h : (46 : UInt8) ∉ a) : dec (a ++ 46 :: b) = if Zjc a && Zfi b then some (1000 * val a + frac b) else none := by
 by_cases ha : a.all Zdc = true
 · have := Zow (b := b) Zaxk ha;unfold dec;rw [this.2, this.1];simp
 · have hn : Zjc a = false := by
    rw [Ycy]; exact fun e => ha (Znt e)
   rw [hn, Bool.false_and, Yab (by decide)]
   obtain ⟨c, r, hd, hc⟩ := Zyk b a h (by simpa using ha)
   unfold dec;rw [hd];show (if Zjc _ && (c == 46 && Zfi r) then _ else none) = none
   rw [Yak.2 hc]; simp
theorem Zabh (l : List UInt8) (hne : l ≠ []) (hlen : l.length ≤ 10) (hd : l.all Zdc = true) : atoiAll l = .ok (val l) := by
 cases l with
 | nil => exact absurd rfl hne
 | cons c r =>
   have hc := (Zgc c).1 (by simp only [Ycv, Yar] at hd; exact hd.1)
   have hp : 10 ^ (c :: r).length ≤ 10 ^ 10 := Yeu (by decide) hlen
   have hv := Zada (c :: r) hd;have e : parseUint10 0 (c :: r) = .ok (val (c :: r)) := Zpc (c :: r) 0 hd (by simpa using hp)
   unfold atoiAll;simp only;rw [Yab (by omega)]
   unfold parseMag;rw [Yab (by simp), e]
   simp only;rw [Yab (by omega), Yab (by omega), Yab (by omega)]
theorem Zsw (n : Nat) : (repeatL [48] n).all Zdc = true ∧ (repeatL [48] n).length = n := by
 induction n with
 | zero => exact ⟨rfl, rfl⟩
 | succ n ih => unfold repeatL; simp [ih.1, ih.2, Zdc]
theorem Zst (a n : Nat) : Zfo a (repeatL [48] n) = a * 10 ^ n := by
 induction n generalizing a with
 | zero => simp [repeatL, Zeu]
 | succ n ih =>
   unfold repeatL;rw [List.singleton_append, Zff, ih];show (10 * a + (48 - 48)) * 10 ^ n = _;rw [Nat.pow_succ, Yep, Yef, Yen 10 a, Nat.mul_assoc, Yen 10]
theorem Zatv (b : List UInt8) (n : Nat) : val (b ++ repeatL [48] n) = val b * 10 ^ n := by
 unfold val; rw [Adr.Zhd, Zst]
theorem Zxz {b : List UInt8} (h1 : 1 ≤ b.length) (h3 : b.length ≤ 3) (hd : b.all Zdc = true) : atoiAll (b ++ repeatL [48] (3 - b.length)) = .ok (frac b) := by
 have hr := Zsw (3 - b.length);rw [Zabh _ (by intro e; have := congrArg List.length e; rw [Yaj, hr.2, Ydx] at this; omega) (by rw [Yaj, hr.2]; omega) (by rw [List.all_append, hd, hr.1]; rfl), Zatv]
 rfl
def Zgd : List UInt8 := [48, 49, 50, 51, 52, 53, 54, 55, 56, 57]
theorem Zaho (c : UInt8) : Zgd.contains c = Zdc c := by
 have : ∀ n : Fin 256, Zgd.contains (UInt8.ofNat n) = Zdc (UInt8.ofNat n) := by decide +kernel
 have h := this ⟨c.toNat, c.toNat_lt⟩;simpa using h
theorem Zmo {p : UInt8 → Bool} (l : List UInt8) : l.dropWhile p = [] ↔ l.all p = true := by
 induction l with
 | nil => simp
 | cons c r ih =>
   rw [List.dropWhile_cons, Ycv];by_cases h : p c = true
   · rw [Yan h, ih, h, Ydr]
   · rw [Yab h]; simp [h]
theorem Zacg (cs l : List UInt8) : trimS l cs = [] ↔ l.all (cs.contains ·) = true := by
 unfold trimS trimLeftS;rw [Zmo];unfold trimRightS;rw [List.all_reverse];constructor
 · intro h;have h2 : (l.reverse.dropWhile (cs.contains ·)).all (cs.contains ·) = true := h;have e := Zgl (p := (cs.contains ·)) l.reverse
   have : l.reverse.all (cs.contains ·) = true := by
    rw [e, List.all_append, h2, Bool.and_true];exact List.all_takeWhile
   simpa using this
 · intro h;have : l.reverse.dropWhile (cs.contains ·) = [] := by rw [Zmo]; simpa using h
   rw [this]; rfl
theorem Zsh (l : List UInt8) : trimS l Zgd = [] ↔ l.all Zdc = true := by
 rw [Zacg];rw [show (fun x => Zgd.contains x) = Zdc from funext Zaho]
end Mtr
