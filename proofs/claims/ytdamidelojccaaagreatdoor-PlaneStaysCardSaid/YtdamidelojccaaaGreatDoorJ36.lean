import Derived.Test.YtdamidelojccaaaGreatDoorJ30
set_option linter.unusedVariables false
set_option linter.unusedSimpArgs false
namespace Edt
open Go Go.Lib Tre Sch Lns
theorem Zata {X : List Line} (hr : Zab X = true) {q : List ByteArray} {l : Line} (h : (q, l) ∈ (Zaf X).zip X) : stB X q = l.mark := by
 obtain ⟨k, hk, e⟩ := Ybo h;rw [List.length_zip, Zag, Nat.min_self] at hk;rw [List.getElem_zip] at e;injection e with e1 e2
 refine Zrh hr (k := k) ?_ ?_
 · rw [Yag (by rw [Zag]; exact hk), e1]
 · rw [Yag hk, e2]
theorem Zauy {X : List Line} {q : List ByteArray} (h : q ∈ Zaf X) : ∃ l, (q, l) ∈ (Zaf X).zip X := by
 obtain ⟨k, hk, rfl⟩ := Ybo h;have hk2 : k < X.length := by rw [Zag] at hk; exact hk
 refine ⟨X[k], ?_⟩;rw [Yey];exact ⟨k, by rw [List.length_zip, Zag, Nat.min_self]; exact hk2, by rw [List.getElem_zip]⟩
theorem Zatm {α β : Type} (A : List α) (B : List β) (m : Nat) (h : A.length = B.length) : A.zip B = (A.take m).zip (B.take m) ++ (A.drop m).zip (B.drop m) := by
 rw [← List.zip_append (by simp [h]), Ybk, Ybk]
theorem Zaar {L : List Line} (hr : Zab L = true) : (Zaf L).Nodup := by
 refine Ydo.2 ((Zea hr).1.1.imp fun {a b} h e => ?_)
 rw [e] at h;exact Zby _ h
theorem Zwl {P : List ByteArray} (hP : Zei P = true) (h16 : P.length ≤ 16) : ∀ (f d : Nat) (out M : List Line), d + f = P.length → Zab out = true → (d = 0 ∨ P.take d ∈ Zaf out) → Zdn P f d out = some M →
 Zab M = true ∧ (∀ q, q ∈ Zaf out → stB M q = stB out q) ∧ ∀ q, ¬ q ∈ Zaf out → stB M q ≤ 0
 | 0, d, out, M, hd, hr, _, h => by
   unfold Zdn at h;injection h with h
   subst h;exact ⟨hr, fun _ _ => rfl, fun q hq => by rw [Zer hr hq]; decide⟩
 | f + 1, d, out, M, hd, hr, hU, h => by
   unfold Zdn at h;cases hf : Zar out (P.take (d + 1)) with
   | some k =>
     rw [hf, Yan (show (some k).isSome = true from rfl)] at h;exact Zwl hP h16 f (d + 1) out M (by omega) hr (.inr ((Zfu hr).1 (by rw [hf]; rfl))) h
   | none =>
     rw [hf, Yab (show ¬ (none : Option Nat).isSome = true by simp)] at h
     by_cases hl : 200 ≤ out.length
     · rw [Yan hl] at h; cases h
     · rw [Yab hl] at h;have hU2 : P.take d = [] ∨ P.take d ∈ Zaf out := hU.imp (fun e => by rw [e]; rfl) id
       have htp : P.take (d + 1) = P.take d ++ [wAt P d] := Zsl (by omega)
       have hn : ¬ P.take d ++ [wAt P d] ∈ Zaf out := by
        rw [← htp];intro h;have := (Zfu hr).2 h;rw [hf] at this; cases this
       have hl2 : (P.take d).length = d := by rw [Yad]; omega
       have g := Zaxa hr (s := wAt P d) (m := 0) hU2 hn (by omega) (Zph hP (by omega)) (by omega) ⟨by omega, by omega⟩
       rw [hl2] at g
       have hin : P.take (d + 1) ∈ Zaf (insB out (Zbq out (P.take d) (wAt P d)) ⟨d, wAt P d, 0⟩) := by
        rw [Zdp g.1, g.2, Yan htp]; exact Int.le_refl 0
       obtain ⟨k1, k2, k3⟩ := Zwl hP h16 f (d + 1) _ M (by omega) g.1 (.inr hin) h
       refine ⟨k1, fun q hq => ?_, fun q hq => ?_⟩
       · have hne : ¬ q = P.take d ++ [wAt P d] := fun e => hn (e ▸ hq)
         rw [k2 q (by rw [Zdp g.1, g.2, Yab hne]; exact (Zdp hr).1 hq), g.2, Yab hne]
       · by_cases e : q = P.take d ++ [wAt P d]
         · rw [k2 q (by rw [e, ← htp]; exact hin), g.2, Yan e]; exact Int.le_refl 0
         · exact k3 q fun hm => hq (by rw [Zdp hr]; rw [Zdp g.1, g.2, Yab e] at hm; exact hm)
theorem Zajv {L M : List Line} {P : List ByteArray} (h : addB L P = (M, 0)) : Zab L = true ∧ Zei P = true ∧ P.length ≤ 16 ∧ P ≠ [] ∧ Zab M = true ∧ ∀ q, stB M q = if 0 ≤ stB L q then stB L q else if q ≠ [] ∧ preB q P = true then 0 else -1 := by
 unfold addB at h;split at h
 · injection h with _ h; exact absurd h (by decide)
 · rename_i h1;split at h
   · injection h with _ h; exact absurd h (by decide)
   · rename_i h2;split at h
     · rename_i M' hM;injection h with h _
       subst h;have hs : Zei P = true := by
        cases hs : Zei P with
        | true => rfl
        | false => exact absurd (.inr hs) h1
       have hr : Zab L = true := by
        cases hr : Zab L with
        | true => rfl
        | false => exact absurd (.inl hr) h1
       obtain ⟨g1, g2⟩ := Zkr hs (by omega) P.length 0 L M' (by omega) hr (.inl rfl) hM
       obtain ⟨-, k2, k3⟩ := Zwl hs (by omega) P.length 0 L M' (by omega) hr (.inl rfl) hM
       refine ⟨hr, hs, by omega, fun e => by rw [e] at hs; exact absurd hs (by decide), g1, fun q => ?_⟩
       by_cases hq : q ∈ Zaf L
       · rw [Yan ((Zdp hr).1 hq), k2 q hq]
       · rw [Yab fun h => hq ((Zdp hr).2 h)]
         by_cases hp : q ≠ [] ∧ preB q P = true
         · rw [Yan hp];obtain ⟨s, es⟩ := Zbg.1 hp.2;have hm : q ∈ Zaf M' := (g2 q).2 (.inr ⟨q.length, Ycx.2 hp.1, by rw [es]; simp, by rw [es]; simp⟩)
           have a := (Zdp g1).1 hm;have b := k3 q hq;omega
         · rw [Yab hp];refine Zer g1 fun hm => ?_
           rcases (g2 q).1 hm with h | ⟨j, j1, j2, e⟩
           · exact hq h
           · refine hp ⟨fun e2 => ?_, Zbg.2 ⟨P.drop j, by rw [e, Ybk]⟩⟩
             have := congrArg List.length e;rw [e2, Yad] at this;simp at this;omega
     · injection h with _ h; exact absurd h (by decide)
theorem Zafy {L : List Line} {P : List ByteArray} (hr : Zab L = true) : Zab (addB L P).1 = true := by
 by_cases h : (addB L P).2 = 0
 · exact (Zajv (L := L) (P := P) (M := (addB L P).1) (by rw [← h])).2.2.2.2.1
 · unfold addB at h ⊢;split
   · exact hr
   · split
     · exact hr
     · rename_i h1 h2;rw [Yab h1, Yab h2] at h;split
       · rename_i M hM;rw [hM] at h;exact absurd rfl h
       · exact hr
theorem Zakl {L : List Line} {P : List ByteArray} (hr : Zab L = true) : Zab (setB L P).1 = true := by
 unfold setB;split
 · exact hr
 · split
   · exact hr
   · exact Zafy hr
theorem Zalz {L : List Line} {P : List ByteArray} (hr : Zab L = true) : Zab (delB L P).1 = true := by
 unfold delB;split
 · exact hr
 · split
   · exact hr
   · rename_i k hk;split
     · exact hr
     · exact (Zalh hr (Zej hr hk).1).1
theorem Zahq {m b : Int} (h : 0 ≤ m ∧ m ≤ 3) (hb : b = 1 ∨ b = 2) (on : Bool) : 0 ≤ (if on = true then bits .or .i64 m b else bits .andNot .i64 m b) ∧ (if on = true then bits .or .i64 m b else bits .andNot .i64 m b) ≤ 3 := by
 have hm : m = 0 ∨ m = 1 ∨ m = 2 ∨ m = 3 := by omega
 rcases hm with rfl | rfl | rfl | rfl <;> rcases hb with rfl | rfl <;> cases on <;> decide
theorem Zait {l : Line} (h : 0 ≤ l.mark ∧ l.mark ≤ 3) {b : Int} (hb : b = 1 ∨ b = 2) (on : Bool) : 0 ≤ (Zzb l b on).mark ∧ (Zzb l b on).mark ≤ 3 := Zahq h hb on
theorem Zsx {L : List Line} {P : List ByteArray} {b : Int} {on : Bool} (hr : Zab L = true) : Zab (Zgr L P b on).1 = true := by
 unfold Zgr;split
 · exact hr
 · rename_i hb;split
   · exact hr
   · split
     · exact hr
     · rename_i k hk;have hkl := (Zej hr hk).1;split
       · exact hr
       · have hm := Zait (Zpv hr hkl) (b := b) (by omega) on
         have := (Zzl hr hkl hm).1;unfold markB at this;rw [Zaw hkl, Zbi hkl] at this;rw [Zdf hkl];exact this
theorem Zagt {L : List Line} (hr : Zab L = true) {k : Nat} (hk : k < L.length) {m : Int} (hm : 0 ≤ m ∧ m ≤ 3) : Zaf (markB L k m) = Zaf L := by
 obtain ⟨h1, h2⟩ := Zzl hr hk hm;refine Zuq (Zea h1).1.1 (Zea hr).1.1 fun q => ?_
 rw [Zdp h1, Zdp hr, h2];split
 · rename_i e;rw [e, Zxw hr hk];exact ⟨fun _ => (Zpv hr hk).1, fun _ => hm.1⟩
 · exact Iff.rfl
theorem Zafm {K N : List Line} (hK : Zab K = true) (hN : Zab N = true) {i k : Nat} (hi : i < K.length) (hk : k < N.length) (hlen : (pa K i).length = (pa N k).length)
 (hno : ∀ q ∈ Zaf N, preB (pa N k) q = true → q = pa N k) (h200 : N.length + (endB K i - (i + 1)) ≤ 200) :
 Zab (Go.Proofs.Zq.insMB N (k + 1) ((Zbu K i).drop 1)) = true ∧ ∀ q, stB (Go.Proofs.Zq.insMB N (k + 1) ((Zbu K i).drop 1)) q = if preB (pa N k) q = true ∧ q ≠ pa N k then stB K (pa K i ++ q.drop (pa N k).length) else stB N q := by
 obtain ⟨ht, hf⟩ := Zea hN;obtain ⟨e1, e2⟩ := Zbb K i hi;obtain ⟨n, hn⟩ : ∃ n, endB K i = i + 1 + n := ⟨endB K i - (i + 1), by omega⟩
 obtain ⟨T, hT⟩ : ∃ T, pa N k = T := ⟨_, rfl⟩;obtain ⟨P, hP⟩ : ∃ P, pa K i = P := ⟨_, rfl⟩;rw [hT] at hlen hno ⊢;rw [hP] at hlen ⊢;have hTm : T ∈ Zaf N := hT ▸ Zbt.2 ⟨k, hk, rfl⟩
 have hsub : ∀ j, j < n → ∃ s, s ≠ [] ∧ pa K (i + 1 + j) = P ++ s := fun j hj => by
  obtain ⟨s, hs⟩ := (Zdo hK hi (show i + 1 + j < K.length by omega)).2 ⟨by omega, by omega⟩
  rw [hP] at hs;refine ⟨s, fun e => ?_, hs⟩
  rw [e, Ybg, ← hP] at hs;have := Zacc hK (show i + 1 + j < K.length by omega) hi hs
  omega
 obtain ⟨V, hV⟩ : ∃ V, (Zbu K i).drop 1 = V := ⟨_, rfl⟩;rw [hV];have hVl : V.length = n := by rw [← hV, Yam, Zho hi]; omega
 have hVj : ∀ j (h : j < V.length), ∃ h2 : i + 1 + j < K.length, V[j] = K[i + 1 + j] := fun j h => by
  refine ⟨by omega, ?_⟩
  have : V[j]? = K[i + 1 + j]? := by
   rw [← hV];unfold Zbu;rw [Ydb, Ycp, Yan (by omega), Ydb]
   congr 1; omega
  rw [Yag h, Yag (by omega)] at this
  injection this
 obtain ⟨S, hS⟩ : ∃ S, (List.range n).map (fun j => T ++ (pa K (i + 1 + j)).drop P.length) = S := ⟨_, rfl⟩
 have hSl : S.length = n := by rw [← hS, Yax, Yes]
 have hSj : ∀ j (h : j < S.length), S[j] = T ++ (pa K (i + 1 + j)).drop P.length := fun j h => by subst hS; rw [Ydj, List.getElem_range]
 have hSs : ∀ j (h : j < S.length), ∃ s, s ≠ [] ∧ pa K (i + 1 + j) = P ++ s ∧ S[j] = T ++ s := fun j h => by
  obtain ⟨s, h1, h2⟩ := hsub j (by omega)
  refine ⟨s, h1, h2, ?_⟩;rw [hSj j h, h2]; simp
 have hSm : ∀ q, q ∈ S ↔ ∃ s, s ≠ [] ∧ P ++ s ∈ Zaf K ∧ q = T ++ s := fun q => by
  constructor
  · intro h;obtain ⟨j, hj, rfl⟩ := Ybo h;obtain ⟨s, h1, h2, h3⟩ := hSs j hj;exact ⟨s, h1, h2 ▸ Zbt.2 ⟨_, by omega, rfl⟩, h3⟩
  · rintro ⟨s, h1, h2, rfl⟩;obtain ⟨m, hm, e⟩ := Zbt.1 h2;obtain ⟨g1, g2⟩ := (Zdo hK hi hm).1 ⟨s, by rw [e, hP]⟩
    have hne : m ≠ i := fun e' => by
     rw [e', hP] at e;exact h1 (by simpa using e)
    rw [Yey];refine ⟨m - (i + 1), by omega, ?_⟩
    rw [hSj, show i + 1 + (m - (i + 1)) = m by omega, e]; simp
 have hfV : Zfq S V := Zvs (by omega) fun j h1 h2 => by
  obtain ⟨h3, h4⟩ := hVj j h2;obtain ⟨s, s1, s2, s3⟩ := hSs j h1;have hd := (Zad hK).2.1;have g1 := Zee hd (i + 1 + j) h3;have g2 := Zbw hd h3;have g3 := Zgg hK h3;have g4 := Zcf hd h3;rw [Zbi h3] at g3;rw [Zaw h3] at g2 g4;rw [h4, s3];refine ⟨g1.1, ?_, ?_⟩
  · rw [s2, Yaj] at g2;rw [Yaj]; omega
  · rw [← g3, s2, Ybu, Ybu, Ycr, Ycr];cases hs : s.getLast? with
    | none => exact absurd (List.getLast?_eq_none_iff.1 hs) s1
    | some x => rfl
 have hlo : ∀ q ∈ (Zaf N).take (k + 1), q = T ∨ pLt q T := fun q h => by
  obtain ⟨j, hj, e⟩ := Ybo h;rw [Yad, Zag] at hj;rw [Yct, ← Zfh (by omega)] at e
  rcases Ybp j k with g | g
  · exact .inr (by rw [← e, ← hT]; exact Zol hN g hk)
  · exact .inl (by rw [← e, ← hT, show j = k by omega])
 have hhi : ∀ q ∈ (Zaf N).drop (k + 1), pLt T q ∧ ∀ s, q ≠ T ++ s := fun q h => by
  obtain ⟨j, hj, e⟩ := Ybo h;rw [Yam, Zag] at hj;rw [Ydl, ← Zfh (by omega)] at e
  have h1 : pLt T q := by rw [← e, ← hT]; exact Zol hN (by omega) (by omega)
  refine ⟨h1, fun s es => ?_⟩
  have := hno q (by rw [← e]; exact Zbt.2 ⟨_, by omega, rfl⟩) (Zbg.2 ⟨s, es⟩)
  rw [this] at h1;exact Zby _ h1
 have hpush : ∀ s : List ByteArray, s ≠ [] → pLt T (T ++ s) := fun s h => by
  cases s with
  | nil => exact absurd rfl h
  | cons x l => exact Zkt T x l
 have hSq : ∀ q ∈ S, ∃ s, s ≠ [] ∧ P ++ s ∈ Zaf K ∧ q = T ++ s := fun q h => (hSm q).1 h
 have hmem : ∀ q, q ∈ (Zaf N).take (k + 1) ++ S ++ (Zaf N).drop (k + 1) ↔ q ∈ Zaf N ∨ q ∈ S := fun q => by
  rw [Ybm, Ybm]
  conv => rhs; lhs; rw [← Ybk (k + 1) (Zaf N), Ybm]
  constructor
  · rintro ((h | h) | h)
    · exact .inl (.inl h)
    · exact .inr h
    · exact .inl (.inr h)
  · rintro ((h | h) | h)
    · exact .inl (.inl h)
    · exact .inr h
    · exact .inl (.inr h)
 obtain ⟨X, hX⟩ : ∃ X, Go.Proofs.Zq.insMB N (k + 1) V = X := ⟨_, rfl⟩;have hXe : X = N.take (k + 1) ++ V ++ N.drop (k + 1) := hX.symm
 have hres : Zab X = true ∧ Zaf X = (Zaf N).take (k + 1) ++ S ++ (Zaf N).drop (k + 1) := by
  rw [hXe];refine Zjv (Zga (Zga (Zic _ hf) hfV) (Zhz _ hf)) ⟨?_, fun q hq => ?_⟩ ?_
  · rw [Ybl, Yew, Yew];refine ⟨ht.1.sublist (List.take_sublist _ _), ⟨?_, ht.1.sublist (List.drop_sublist _ _), fun a ha b hb => ?_⟩, fun a ha b hb => ?_⟩
    · rw [Yds];intro a b ha hb hab;obtain ⟨s, -, s2, s3⟩ := hSs a ha;obtain ⟨r, -, r2, r3⟩ := hSs b hb;have h1 := Zol hK (show i + 1 + a < i + 1 + b by omega) (show i + 1 + b < K.length by omega)
      rw [s2, r2, Zfk] at h1;rw [s3, r3, Zfk]; exact h1
    · obtain ⟨s, -, -, rfl⟩ := hSq a ha;exact beside s (hhi b hb).1 (hhi b hb).2
    · rcases Ybm.1 hb with hb | hb
      · obtain ⟨s, s1, -, rfl⟩ := hSq b hb;rcases hlo a ha with e | e
        · rw [e]; exact hpush s s1
        · exact Zcb e (hpush s s1)
      · rcases hlo a ha with e | e
        · rw [e]; exact (hhi b hb).1
        · exact Zcb e (hhi b hb).1
  · rcases (hmem q).1 hq with h | h
    · obtain ⟨h1, h2⟩ := ht.2 q h;exact ⟨h1, h2.imp (fun h => (hmem _).2 (.inl h)) id⟩
    · obtain ⟨s, s1, s2, rfl⟩ := hSq q h;refine ⟨by simp [s1], .inl ((hmem _).2 ?_)⟩
      rw [Ycm s1];by_cases h0 : s.dropLast = []
      · rw [h0, Ybg]; exact .inl hTm
      · refine .inr ((hSm _).2 ⟨_, h0, ?_, rfl⟩);rcases ((Zea hK).1.2 _ s2).2 with h | h
        · rwa [Ycm s1] at h
        · rw [Ycm s1] at h;exact absurd (Yem.1 h).2 h0
  · rw [Yaj, Yaj, Yad, Yam]; omega
 rw [hX]
 have hz : (Zaf X).zip X = ((Zaf N).take (k + 1)).zip (N.take (k + 1)) ++ S.zip V ++ ((Zaf N).drop (k + 1)).zip (N.drop (k + 1)) := by
  rw [hres.2, hXe, List.zip_append (by simp [Zag, hSl, hVl]), List.zip_append (by simp [Zag])]
 have hzN := Zatm (Zaf N) N (k + 1) (Zag N);refine ⟨hres.1, fun q => ?_⟩
 by_cases hq : q ∈ Zaf N ∨ q ∈ S
 · obtain ⟨l, hl⟩ := Zauy (X := X) (q := q) (by rw [hres.2]; exact (hmem q).2 hq)
   rw [Zata hres.1 hl];rw [hz, Ybm, Ybm] at hl
   have old : (q, l) ∈ (Zaf N).zip N → l.mark = if preB T q = true ∧ q ≠ T then stB K (P ++ q.drop T.length) else stB N q := fun h => by
    rw [Yab fun hh => hh.2 (hno q (List.of_mem_zip h).1 hh.1), Zata hN h]
   rcases hl with (hl | hl) | hl
   · exact old (by rw [hzN]; exact List.mem_append_left _ hl)
   · obtain ⟨j, hj, e⟩ := Ybo hl;rw [List.length_zip] at hj;rw [List.getElem_zip] at e;injection e with e1 e2
     obtain ⟨h3, h4⟩ := hVj j (by omega)
     obtain ⟨s, s1, s2, s3⟩ := hSs j (by omega)
     rw [s3] at e1;rw [Yan ⟨Zbg.2 ⟨s, e1.symm⟩, fun e => s1 (by rw [e] at e1; simpa using e1)⟩, ← e1, ← e2, h4, show P ++ (T ++ s).drop T.length = pa K (i + 1 + j) by rw [s2]; simp, Zxw hK h3]
   · exact old (by rw [hzN]; exact List.mem_append_right _ hl)
 · rw [Zer hres.1 (by rw [hres.2]; exact fun h => hq ((hmem q).1 h))]
   split
   · rename_i h;obtain ⟨h1, h2⟩ := h;obtain ⟨s, hs⟩ := Zbg.1 h1;refine (Zer hK fun hm => hq (.inr ((hSm q).2 ⟨s, ?_, ?_, hs⟩))).symm
     · rintro rfl;rw [Ybg] at hs;exact h2 hs
     · rw [hs] at hm; simpa using hm
   · exact (Zer hN fun h => hq (.inl h)).symm
theorem Zacl {L K R : List Line} {P : List ByteArray} {s : ByteArray} {i : Nat} (hK : Zab K = true) (hi : i < K.length) (hP : pa K i = P) (hU : P.dropLast = [] ∨ P.dropLast ∈ Zaf L) (h : Zcp L P s (Zbu K i) = (R, 0)) :
 Zab R = true ∧ ∀ q, stB R q = if preB (P.dropLast ++ [s]) q = true then stB K (P ++ q.drop P.length) else stB L q := by
 have hPne : P ≠ [] := by
  have := Zbw (Zad hK).2.1 hi;rw [hP] at this;intro e; rw [e] at this; simp at this
 have hTl : (P.dropLast ++ [s]).length = P.length := by
  have := Ycx.2 hPne;rw [Yaj, Ycn]; simp; omega
 unfold Zcp at h;obtain ⟨T, hT⟩ : ∃ T, P.dropLast ++ [s] = T := ⟨_, rfl⟩;rw [hT] at h hTl ⊢;split at h
 · injection h with _ h; exact absurd h (by decide)
 · rename_i h1;split at h
   · injection h with _ h; exact absurd h (by decide)
   · rename_i h2;split at h
     · rename_i h3;injection h with _ h
       exact absurd h h3
     · rename_i h3;injection h with h _
       have ha : addB L T = ((addB L T).1, 0) := by rw [← Decidable.not_not.1 h3]
       generalize (addB L T).1 = M at *;obtain ⟨hL, -, -, hTne, hM, hMs⟩ := Zajv ha;obtain ⟨-, k, hk⟩ := Zra ha;obtain ⟨hkl, hkp⟩ := Zej hM hk;have hTL : ¬ T ∈ Zaf L := fun hm => h1 ((Zfu hL).2 hm)
       have hMs2 : ∀ q, stB M q = if q = T then 0 else stB L q := fun q => by
        rw [hMs];by_cases hq : q = T
        · rw [Yan hq, Yab (by rw [hq, ← Zdp hL]; exact hTL), Yan ⟨by rw [hq]; exact hTne, by rw [hq]; exact Zbg.2 ⟨[], by simp⟩⟩]
        · rw [Yab hq];by_cases h0 : 0 ≤ stB L q
          · rw [Yan h0]
          · rw [Yab h0, Yab, (Zaxo hL).1 fun hm => h0 ((Zdp hL).1 hm)]
            rintro ⟨g1, g2⟩;obtain ⟨r, hr⟩ := Zbg.1 g2;by_cases hr0 : r = []
            · rw [hr0, Ybg] at hr; exact hq hr.symm
            · have hd : P.dropLast = q ++ r.dropLast := by
               have := congrArg List.dropLast (hT.trans hr)
               rwa [Yed, Ycm hr0] at this
              rcases hU with hU | hU
              · rw [hU] at hd;exact g1 (Yem.1 hd.symm).1
              · rw [hd] at hU;exact h0 ((Zdp hL).1 (Zrl hL g1 hU))
       rw [hk] at h;simp only [Yez] at h
       have hl0 : Zdq (Zbu K i) 0 = K[i] := by
        have hp : 0 < (Zbu K i).length := by rw [Zho hi]; have := Zbb K i hi; omega
        have e0 : (Zbu K i)[0]? = some K[i] := by
         unfold Zbu;rw [Ycp, Yan (by have := Zbb K i hi; omega), Ydb, Yef, Yag hi]
        rw [Zdf hp];rw [Yag hp] at e0;injection e0
       rw [hl0] at h;have hmk := Zpv hK hi;obtain ⟨g1, g2⟩ := Zzl hM hkl hmk;have g3 := Zagt hM hkl hmk;have hNl : (markB M k K[i].mark).length = M.length := Zyx _ _ _;generalize markB M k K[i].mark = N at *;have hkN : pa N k = T := by
        unfold pa; rw [g3]; exact hkp
       rw [hkp] at g2
       have hno : ∀ q ∈ Zaf N, preB (pa N k) q = true → q = pa N k := fun q hq hp => by
        rw [hkN] at hp ⊢;refine Decidable.byContradiction fun hne => ?_
        rw [g3, Zdp hM, hMs2, Yab hne, ← Zdp hL] at hq;obtain ⟨r, hr⟩ := Zbg.1 hp;rw [hr] at hq;exact hTL (Zrl hL hTne hq)
       have hMl : M.length ≤ L.length + 1 := by
        have := List.Nodup.length_le_of_subset (Zaar hM) (l₂ := T :: Zaf L) fun q hq => by
         rw [Zdp hM, hMs2] at hq;by_cases e : q = T
         · rw [e]; exact Yci ..
         · rw [Yab e, ← Zdp hL] at hq;exact Ycg _ hq
        rw [Ybi, Zag, Zag] at this;exact this
       have hpl := Zho hi;obtain ⟨r1, r2⟩ := Zafm hK g1 hi (k := k) (by omega) (by rw [hkN, hP, hTl]) hno (by have := Zbb K i hi; omega)
       rw [h] at r1 r2;refine ⟨r1, fun q => ?_⟩
       rw [r2, hkN, hP, hTl];by_cases hp : preB T q = true
       · rw [Yan hp];by_cases e : q = T
         · rw [Yab fun hh => hh.2 e, g2, Yan e, e, show T.drop P.length = [] from Ybd (by omega), Ybg, ← hP, Zxw hK hi]
         · rw [Yan ⟨hp, e⟩]
       · rw [Yab hp, Yab fun hh => hp hh.1]
         have e : ¬ q = T := fun e => hp (by rw [e]; exact Zbg.2 ⟨[], by simp⟩)
         rw [g2, Yab e, hMs2, Yab e]
theorem up_of {L : List Line} (hr : Zab L = true) {P : List ByteArray} (h : P ∈ Zaf L) : P.dropLast = [] ∨ P.dropLast ∈ Zaf L := ((Zea hr).1.2 P h).2.symm
theorem Zatr {L R : List Line} {P : List ByteArray} {s : ByteArray} {k : Nat} (hr : Zab L = true) (hk : Zar L P = some k) (h : Zcp L P s (Zbu L k) = (R, 0)) :
 Zab R = true ∧ ∀ q, stB R q = if preB (P.dropLast ++ [s]) q = true then stB L (P ++ q.drop P.length) else stB L q := by
 obtain ⟨h1, h2⟩ := Zej hr hk;exact Zacl hr h1 h2 (up_of hr (Zbt.2 ⟨k, h1, h2⟩)) h
theorem Zaxq {L R : List Line} {P : List ByteArray} {s : ByteArray} {k : Nat} (hr : Zab L = true) (hk : Zar L P = some k) (h : Zcp (L.take k ++ L.drop (endB L k)) P s (Zbu L k) = (R, 0)) :
 Zab R = true ∧ ∀ q, stB R q = if preB (P.dropLast ++ [s]) q = true then stB L (P ++ q.drop P.length) else if preB P q = true then -1 else stB L q := by
 obtain ⟨h1, h2⟩ := Zej hr hk;obtain ⟨c1, c2⟩ := Zalh hr h1;rw [h2] at c2;have hne : P ≠ [] := ((Zea hr).1.2 P (Zbt.2 ⟨k, h1, h2⟩)).1
 have hU : P.dropLast = [] ∨ P.dropLast ∈ Zaf (cutB L k) := (up_of hr (Zbt.2 ⟨k, h1, h2⟩)).imp id fun h => by
  rw [Zdp c1, c2, Yab, ← Zdp hr]
  · exact h
  · intro hp;obtain ⟨r, e⟩ := Zbg.1 hp;have := congrArg List.length e;have hp2 := Ycx.2 hne;rw [Yaj, Ycn] at this;omega
 obtain ⟨r1, r2⟩ := Zacl (L := cutB L k) hr h1 h2 hU h;exact ⟨r1, fun q => by rw [r2, c2]⟩
theorem Zaff {L : List Line} {P : List ByteArray} {s : ByteArray} (hr : Zab L = true) (h : (Zjd L P s).2 = 0) : Zab (Zjd L P s).1 = true := by
 unfold Zjd at h ⊢;split
 · exact hr
 · rename_i h1;rw [Yab h1] at h;split
   · exact hr
   · rename_i h2;rw [Yab h2] at h;split
     · exact hr
     · rename_i k hk;rw [hk] at h;simp only at h;split
       · exact hr
       · rename_i h3;rw [Yab h3] at h;exact (Zatr hr hk (R := (Zcp L P s (Zbu L k)).1) (by rw [← h])).1
theorem Zamu {L : List Line} {P : List ByteArray} {s : ByteArray} (hr : Zab L = true) (h : (renB L P s).2 = 0) : Zab (renB L P s).1 = true := by
 unfold renB at h ⊢;split
 · exact hr
 · rename_i h1;rw [Yab h1] at h;split
   · exact hr
   · rename_i h2;rw [Yab h2] at h;split
     · exact hr
     · rename_i k hk;rw [hk] at h;simp only at h;split
       · exact hr
       · rename_i h3;rw [Yab h3] at h;split
         · exact hr
         · rename_i h4;rw [Yab h4] at h;split
           · exact hr
           · rename_i h5;exact (Zaxq hr hk (R := (Zcp (L.take k ++ L.drop (endB L k)) P s (Zbu L k)).1) (by rw [← Decidable.not_not.1 h5])).1
end Edt
namespace Prs
open Go Go.Lib Go.Sort Go.Proofs Tre Lx Sch
def Zoj (t : Tok) : Prop := t.word.size ≤ 40 ∧ (t.kind = 5 → t.bit = 1 ∨ t.bit = 2)
theorem Zaqf (l : List UInt8) : (unqB l).1.length ≤ 40 := by
 unfold unqB;simp only;split
 · exact Yav _
 · split
   · exact Yav _
   · simp only; omega
theorem Zawo (s : List UInt8) (p : Nat) : Zoj (tokB s p).1 := by
 unfold tokB;split
 · refine ⟨Yav _, fun h => ?_⟩
   simp only at h;unfold Zjy at h;split at h
   · cases h
   · split at h
     · cases h
     · split at h <;> cases h
 · split
   · exact ⟨Yav _, fun h => by cases h⟩
   · simp only;split
     · rename_i hb;refine ⟨Yav _, fun _ => ?_⟩
       simp only;unfold bitB at hb ⊢;split
       · exact .inl rfl
       · rename_i h1;rw [Yab h1] at hb;split
         · exact .inr rfl
         · rename_i h2;rw [Yab h2] at hb;exact absurd hb (by decide)
     · exact ⟨Zaqf _, fun h => by cases h⟩
theorem Zadu (s : List UInt8) : ∀ (f p : Nat) (out : List Tok), (∀ t ∈ out, Zoj t) → ∀ t ∈ (Zlf s f p out).1, Zoj t
 | 0, _, _, h => h
 | f + 1, p, out, h => by
   unfold Zlf;simp only;split
   · intro t ht; cases ht
   · split
     · exact h
     · split
       · intro t ht; cases ht
       · refine Zadu s f _ _ fun t ht => ?_
         rcases Ybm.1 ht with ht | ht
         · exact h t ht
         · rw [Yce] at ht; rw [ht]; exact Zawo _ _
theorem Zawk (s : List UInt8) : ∀ t ∈ (allB s).1, Zoj t := Zadu s _ _ _ fun _ h => by cases h
theorem Zash {b m : Int} (h : 0 ≤ b ∧ b ≤ 3) (hm : m = 1 ∨ m = 2) : 0 ≤ bits .or .i64 b m ∧ bits .or .i64 b m ≤ 3 := by
 have hb : b = 0 ∨ b = 1 ∨ b = 2 ∨ b = 3 := by omega
 rcases hb with rfl | rfl | rfl | rfl <;> rcases hm with rfl | rfl <;> exact ⟨by decide, by decide⟩
theorem Zrd : ∀ (l : List Tok) (b mk : Int) (ok : Bool) (l1 : List Tok), (∀ t ∈ l, Zoj t) → 0 ≤ b ∧ b ≤ 3 → Zce b l = (mk, ok, l1) → (0 ≤ mk ∧ mk ≤ 3) ∧ ∀ t ∈ l1, Zoj t
 | [], b, mk, ok, l1, ht, hb, h => by
   unfold Zce at h;injection h with h1 h; injection h with _ h
   rw [← h1, ← h]; exact ⟨hb, fun t ht => by cases ht⟩
 | t :: r, b, mk, ok, l1, ht, hb, h => by
   unfold Zce at h;split at h
   · rename_i hk;split at h
     · injection h with h1 h; injection h with _ h
       rw [← h1, ← h]; exact ⟨by decide, ht⟩
     · exact Zrd r _ mk ok l1 (fun x hx => ht x (Ycg _ hx)) (Zash hb ((ht t (Yci ..)).2 hk)) h
   · injection h with h1 h; injection h with _ h
     rw [← h1, ← h]; exact ⟨hb, ht⟩
structure Fine (p : Pst) : Prop where
 tok : ∀ t ∈ p.l, Zoj t
 snd : ∀ i, i < p.nodes.length → Zbv (Zax p.nodes i).line = true
 dep : ∀ i, i < p.nodes.length → ((Zax p.nodes i).up = -1 ∧ (Zax p.nodes i).line.depth = 0) ∨ ∃ j : Nat, j < i ∧ (Zax p.nodes i).up = (j : Int) ∧ (Zax p.nodes i).line.depth = (Zax p.nodes j).line.depth + 1
 opn : ∀ j (h : j < p.opn.length), p.opn[j] < p.nodes.length ∧ (Zax p.nodes p.opn[j]).line.depth = (j : Int)
theorem Zaqt (l : List Tok) (h : ∀ t ∈ l, Zoj t) : Fine ⟨l, [], []⟩ := ⟨h, fun _ h => absurd h (Yeq _), fun _ h => absurd h (Yeq _), fun _ h => absurd h (Yeq _)⟩
theorem Zaki {l : List Tok} (h : ∀ t ∈ l, Zoj t) (n : Nat) : ∀ t ∈ l.drop n, Zoj t := fun t ht => h t (Yex ht)
theorem Zalq {l r : List Tok} {N : List Nd} {o : List Nat} (h : Fine ⟨l, N, o⟩) (hr : ∀ t ∈ r, Zoj t) {mk : Int} {s : ByteArray} (hs : s.size ≤ 40) (hm : 0 ≤ mk ∧ mk ≤ 3) (ho : o.length < 16) :
 Fine ⟨r, N ++ [⟨⟨o.length, s, mk⟩, topB o⟩], o⟩ := by
 obtain ⟨-, h2, h3, h4⟩ := h;simp only at h2 h3 h4;refine ⟨hr, fun i hi => ?_, fun i hi => ?_, fun j hj => ?_⟩
 · rw [Yaj] at hi;simp only [Ybi, Ydx] at hi;rcases Ybp i N.length with hl | hl
   · rw [Zcz hl]; exact h2 i hl
   · obtain rfl : i = N.length := by omega
     rw [Zfv];unfold Zbv;simp only [Yar, Yao];omega
 · rw [Yaj] at hi;simp only [Ybi, Ydx] at hi;rcases Ybp i N.length with hl | hl
   · rw [Zcz hl];rcases h3 i hl with g | ⟨j, j1, j2, j3⟩
     · exact .inl g
     · exact .inr ⟨j, j1, j2, by rw [Zcz (show j < N.length by omega)]; exact j3⟩
   · obtain rfl : i = N.length := by omega
     rw [Zfv];rcases Ybn o.length with h0 | h0
     · have e : o = [] := Yaq h0;subst e;exact .inl ⟨rfl, rfl⟩
     · obtain ⟨g1, g2⟩ := h4 (o.length - 1) (by omega)
       refine .inr ⟨o[o.length - 1], g1, ?_, ?_⟩
       · show topB o = _;unfold topB;rw [Ydf, Yag (by omega)]
       · rw [Zcz g1, g2];show (o.length : Int) = _;omega
 · obtain ⟨g1, g2⟩ := h4 j hj;exact ⟨Ybx g1 (by simp), by rw [Zcz g1]; exact g2⟩
theorem Zaub {en : Int} {p : Pst} (h : Fine p) (he : (stB en p).2.1 = 0) : Fine (stB en p).2.2 := by
 by_cases hk : (Zca en p.l).1 = 3
 · by_cases h0 : p.opn.length = 0
   · rw [Zqo hk h0] at he; cases he
   · rw [Zul hk h0];refine ⟨Zaki h.tok 1, h.snd, h.dep, fun j hj => ?_⟩
     simp only [Yad] at hj;simp only [Yct];exact h.opn j (by omega)
 · rw [Zaau hk] at he ⊢;obtain ⟨mk, ok, l1, hm⟩ : ∃ mk ok l1, Zce 0 p.l = (mk, ok, l1) := ⟨_, _, _, rfl⟩;obtain ⟨hmr, hl1⟩ := Zrd _ _ _ _ _ h.tok (by decide) hm
   cases ok with
   | false => rw [Zwm hm] at he; cases he
   | true =>
     by_cases hz : (nameB mk ⟨l1, p.nodes, p.opn⟩).1 = 0
     · rw [Zvj hm hz] at he ⊢;obtain ⟨t1, r1, e1⟩ := Zpq _ _ _ _ hm;obtain ⟨e4, -, ho, -⟩ := Zadb (p := ⟨l1, p.nodes, p.opn⟩) e1 hz;rw [e4] at he ⊢;have hf : Fine ⟨p.l, p.nodes, p.opn⟩ := h;have ht1 : Zoj t1 := hl1 t1 (by rw [e1]; exact Yci ..)
       have hr1 : ∀ t ∈ r1, Zoj t := fun t ht => hl1 t (by rw [e1]; exact Ycg _ ht)
       have g := Zalq (r := r1.drop 1) (mk := mk) hf (Zaki hr1 1) ht1.1 hmr ho;obtain ⟨nd, hnd⟩ : ∃ nd : Nd, nd = ⟨⟨(p.opn.length : Nat), t1.word, mk⟩, topB p.opn⟩ := ⟨_, rfl⟩;have hndd : nd.line.depth = (p.opn.length : Int) := by rw [hnd]
       rw [← hnd] at g he ⊢;clear hnd;by_cases h2 : (Zca en r1).1 = 2
       · rw [Zty h2];refine ⟨g.tok, g.snd, g.dep, fun j hj => ?_⟩
         simp only [Yaj, Ybi, Ydx] at hj;rcases Ybp j p.opn.length with hl | hl
         · simp only [Ydv hl];exact g.opn j hl
         · obtain rfl : j = p.opn.length := by omega
           have e5 : (p.opn ++ [(p.nodes ++ [nd]).length - 1])[p.opn.length]'(by simp) = p.nodes.length := by simp
           show (p.opn ++ [(p.nodes ++ [nd]).length - 1])[p.opn.length]'(by simp) < (p.nodes ++ [nd]).length ∧ (Zax (p.nodes ++ [nd]) ((p.opn ++ [(p.nodes ++ [nd]).length - 1])[p.opn.length]'(by simp))).line.depth = _
           rw [e5];exact ⟨by simp, by rw [Zfv]; exact hndd⟩
       · by_cases h4 : (Zca en r1).1 = 4
         · rw [Zaak h4]; exact g
         · rw [Zaae h2 h4] at he; cases he
     · rw [Zrt hm hz] at he;exact absurd he hz
theorem Zace {en : Int} : ∀ (k : Nat) {p : Pst}, Good p → Fine p → (goB en k p).2.1 = 0 → Good (goB en k p).2.2 ∧ Fine (goB en k p).2.2
 | 0, p, hg, hf, _ => ⟨hg, hf⟩
 | k + 1, p, hg, hf, h => by
   unfold goB at h ⊢;by_cases hl : p.l = []
   · rw [Yan hl]; exact ⟨hg, hf⟩
   · rw [Yab hl] at h ⊢;by_cases he : (stB en p).2.1 = 0
     · rw [Yab (by simp [he])] at h ⊢
       exact Zace k (Zuu hg hl he).1 (Zaub hf he) h
     · rw [Yan he] at h; exact absurd h he
def Zpg : Nat → List Nd → List ByteArray → Int → List (List ByteArray)
 | 0, _, _, _ => []
 | k + 1, N, U, u => (Zcm N u).flatMap fun i => (U ++ [(Zax N i).line.word]) :: Zpg k N (U ++ [(Zax N i).line.word]) (i : Nat)
theorem Zwp {α : Type} {f : α → List (List ByteArray)} {g : α → List Line} : ∀ (l : List α), (∀ x ∈ l, Zfq (f x) (g x)) → Zfq (l.flatMap f) (l.flatMap g)
 | [], _ => trivial
 | x :: l, h => by
   rw [Ybt, Ybt];exact Zga (h x (Yci ..)) (Zwp l fun y hy => h y (Ycg _ hy))
section
variable {p : Pst} (hf : Fine p)
include hf
theorem Zauh {u : Nat} {i : Nat} (hi : i ∈ Zcm p.nodes (u : Int)) : (Zax p.nodes i).line.depth = (Zax p.nodes u).line.depth + 1 := by
 obtain ⟨h1, h2⟩ := Zcu.1 hi;rcases hf.dep i h1 with ⟨g1, -⟩ | ⟨j, -, g2, g3⟩
 · omega
 · rw [g2] at h2;rw [g3, show j = u by omega]
theorem Zavd {i : Nat} (hi : i ∈ Zcm p.nodes (-1)) : (Zax p.nodes i).line.depth = 0 := by
 obtain ⟨h1, h2⟩ := Zcu.1 hi;rcases hf.dep i h1 with ⟨-, g1⟩ | ⟨j, -, g2, -⟩
 · exact g1
 · omega
theorem Zyu : ∀ (k : Nat) (U : List ByteArray) (u : Int), (∀ i ∈ Zcm p.nodes u, (Zax p.nodes i).line.depth = (U.length : Int)) → Zfq (Zpg k p.nodes U u) (Zmi k p.nodes u)
 | 0, _, _, _ => trivial
 | k + 1, U, u, h => by
   unfold Zpg Zmi;refine Zwp _ fun i hi => ⟨⟨hf.snd i (Zcu.1 hi).1, ?_, ?_⟩, Zyu k _ _ fun j hj => ?_⟩
   · rw [h i hi, Yaj]; simp
   · rw [Ybu, Ycr]; rfl
   · rw [Zauh hf hj, h i hi, Yaj]; simp
end
theorem Znc {N : List Nd} : ∀ {k : Nat} {U : List ByteArray} {u : Int} {q : List ByteArray}, q ∈ Zpg k N U u → ∃ i ∈ Zcm N u, ∃ s, q = U ++ (Zax N i).line.word :: s
 | 0, _, _, _, h => by cases h
 | k + 1, U, u, q, h => by
   unfold Zpg at h;obtain ⟨i, hi, h⟩ := Ydi.1 h;rcases Yaw.1 h with h | h
   · exact ⟨i, hi, [], h⟩
   · obtain ⟨j, -, s, e⟩ := Znc h;exact ⟨i, hi, _, by rw [e, Ybl]; rfl⟩
theorem Zael {N : List Nd} : ∀ {k : Nat} {U : List ByteArray} {u : Int} {q : List ByteArray}, q ∈ Zpg k N U u → q.dropLast = U ∨ q.dropLast ∈ Zpg k N U u
 | 0, _, _, _, h => by cases h
 | k + 1, U, u, q, h => by
   unfold Zpg at h ⊢;obtain ⟨i, hi, h⟩ := Ydi.1 h;rcases Yaw.1 h with h | h
   · left; rw [h, Yed]
   · right
     refine Ydi.2 ⟨i, hi, ?_⟩;rcases Zael h with e | e
     · rw [e]; exact Yci ..
     · exact Ycg _ e
theorem Zarq {N : List Nd} (ha : Zpe N) (u : Int) : (Zcm N u).Pairwise fun i j => (Zax N i).line.word.toList < (Zax N j).line.word.toList := by
 have hc := Zaek N
 have hle : ∀ a b, (!(ltOf (cmpW N)) b a) = true ↔ cmpW N a b ≤ 0 := fun a b => by
  rw [hc.le_iff a b];unfold ltOf;rw [Yer, decide_eq_false_iff_not]; omega
 have h1 : (Zcm N u).Pairwise fun x y => (!(ltOf (cmpW N)) y x) = true := by
  unfold Zcm;refine List.pairwise_mergeSort (le := fun x y => !(ltOf (cmpW N)) y x) (fun a b c h1 h2 => ?_) (fun a b => ?_) _
  · rw [hle] at h1 h2 ⊢; exact hc.trans a b c h1 h2
  · rw [Bool.or_eq_true, hle, hle];have := hc.le_iff b a;omega
 refine (h1.and (Ydo.1 (Zrw N u))).imp_of_mem ?_;intro a b hma hmb ⟨h2, hne⟩;rw [hle] at h2;obtain ⟨a1, a2⟩ := Zcu.1 hma;obtain ⟨b1, b2⟩ := Zcu.1 hmb;have h0 : cmpW N a b ≠ 0 := fun h0 => hne (ha a b a1 b1 (a2.trans b2.symm) (ByteArray.ext (Ydz.1 (Zoc (show compareBytes _ _ = 0 from h0)))))
 have h3 := Zsm.1 (show compareBytes (Zax N a).line.word.data.toList (Zax N b).line.word.data.toList < 0 by have h4 : compareBytes (Zax N a).line.word.data.toList (Zax N b).line.word.data.toList = cmpW N a b := rfl; omega)
 rw [Lib.toList_data, Lib.toList_data];exact h3
theorem Zabz {N : List Nd} (ha : Zpe N) : ∀ (k : Nat) (U : List ByteArray) (u : Int), (Zpg k N U u).Pairwise pLt
 | 0, _, _ => List.Pairwise.nil
 | k + 1, U, u => by
   unfold Zpg;rw [List.pairwise_flatMap];refine ⟨fun i _ => Ycb.2 ⟨fun q hq => ?_, Zabz ha k _ _⟩, (Zarq ha u).imp fun {i j} hij x hx y hy => ?_⟩
   · obtain ⟨j, -, s, e⟩ := Znc hq;rw [e]; exact Zkt _ _ _
   · have key : ∀ {i : Nat} {x : List ByteArray}, x ∈ (U ++ [(Zax N i).line.word]) :: Zpg k N (U ++ [(Zax N i).line.word]) (i : Nat) → ∃ s, x = U ++ (Zax N i).line.word :: s := fun {i x} hx => by
      rcases Yaw.1 hx with h | h
      · exact ⟨[], h⟩
      · obtain ⟨j, -, s, e⟩ := Znc h;exact ⟨_, by rw [e, Ybl]; rfl⟩
     obtain ⟨s, rfl⟩ := key hx;obtain ⟨r, rfl⟩ := key hy;rw [Zfk];exact Zir hij
theorem Zanr {p : Pst} (hg : Good p) (hf : Fine p) (k : Nat) : Zab (Zmi k p.nodes (-1)) = true ∧ Zaf (Zmi k p.nodes (-1)) = Zpg k p.nodes [] (-1) := by
 refine Zjv (Zyu hf k [] (-1) fun i hi => by rw [Zavd hf hi]; rfl) ⟨Zabz hg.ap _ _ _, fun q hq => ⟨?_, (Zael hq).symm⟩⟩ (Yas (Zrm hg.ups k (-1)) hg.len)
 obtain ⟨i, -, s, e⟩ := Znc hq;rw [e]; simp
theorem Zahe {s : ByteArray} (h : (Zlg s).2.2 = 0) : Zab (Zlg s).1 = true := by
 unfold Zlg at h ⊢;simp only at h ⊢;split
 · rfl
 · rename_i h1;rw [Yab h1] at h;split
   · rfl
   · rename_i h2;rw [Yab h2] at h;split
     · rfl
     · obtain ⟨g1, g2⟩ := Zace _ (good_nil _) (Zaqt _ (Zawk _)) (Decidable.not_not.1 h2);exact (Zanr g1 g2 _).1
end Prs
