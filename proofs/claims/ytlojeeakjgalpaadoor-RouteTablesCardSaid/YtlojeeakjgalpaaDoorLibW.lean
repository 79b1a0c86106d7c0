/- The library's Split, Cut, ReplaceAll, Join, ParseUint in this seed's words. -/
import Derived.Test.YtlojeeakjgalpaaDoorParW
import Derived.Test.YtlojeeakjgalpaaDoorPu
import Derived.Test.YtlojeeakjgalpaaDoorNumA
namespace Adr
open Go Go.Lib
theorem splitB_parts (c : UInt8) (s : ByteArray) : (splitB ⟨#[c]⟩ 0 (countB s ⟨#[c]⟩) s).map (·.data.toList) = parts c s.data.toList := by
  rw [splitB_data, ← split_parts]; rfl
theorem countB_parts (c : UInt8) (s : ByteArray) : countB s ⟨#[c]⟩ + 1 = (parts c s.data.toList).length := by
  rw [← splitB_parts, List.length_map, splitB_all ⟨#[c]⟩ (Nat.le_refl 1) 0 _ s rfl]
end Adr
namespace Go.Proofs.YtlojeeakjgalpaaDoor
open Go.RowKit

theorem split_any (s : ByteArray) (c : UInt8) (w : World) (hE : Env w) (hs : s.size ≤ 100000000) :
    Calls Tryd.prog 29 #[.string s, .string ⟨#[c]⟩] w (PartsEnd w c s.data.toList) := by
  obtain ⟨m, hm⟩ := hE.mx
  refine (Tryd.strings_Split s ⟨#[c]⟩ m w (by omega) hm (Nat.le_refl 1)).mono fun e w' ⟨he, hw⟩ => ?_
  have hl := Adr.parts_len c s.data.toList
  rw [size_data] at hl
  rw [strs_of, Adr.splitB_parts] at hw
  have hc := Adr.countB_parts c s
  refine ⟨some ⟨w.heap.size, 0, none⟩, (Adr.parts c s.data.toList).length, by rw [he, hc], Nat.le_refl _, by unfold maxLen; omega, ⟨by rw [strs_length]; omega, fun _ => ⟨_, rfl, by rw [hw]; simp, fun j u hu => ?_⟩⟩, by rw [hw]; exact (Below.refl _ _).alloc (Nat.le_refl _) _⟩
  rw [hw, add_plain, Nat.zero_add, World.cell?_alloc_at _ _ _ _ rfl]
  simpa using hu

theorem cut_hit (s : ByteArray) (c : UInt8) (a r : List UInt8) (w : World) (hE : Env w) (hs : s.size ≤ 100000000) (h : s.data.toList = a ++ c :: r) (ha : c ∉ a) :
    Calls Tryd.prog 43 #[.string s, .string ⟨#[c]⟩] w fun e w' => e = .returned (.tuple #[.string ⟨a.toArray⟩, .string ⟨r.toArray⟩, .bool true]) ∧ Below w.heap.size w w' := by
  obtain ⟨m, hm⟩ := hE.mx
  refine (Tryd.strings_Cut s ⟨#[c]⟩ m w (by omega) hm).mono fun e w' ⟨he, n, hw⟩ => ?_
  have e1 : Lib.cut s.data.toList (⟨#[c]⟩ : ByteArray).data.toList = (a, r, true) := by rw [h]; exact Adr.cut_at c a r ha
  rw [e1] at he
  exact ⟨he, by rw [hw]; exact below_drews n⟩
theorem cut_no (s : ByteArray) (c : UInt8) (w : World) (hE : Env w) (hs : s.size ≤ 100000000) (h : c ∉ s.data.toList) :
    Calls Tryd.prog 43 #[.string s, .string ⟨#[c]⟩] w fun e w' => e = .returned (.tuple #[.string s, .string ⟨#[]⟩, .bool false]) ∧ Below w.heap.size w w' := by
  obtain ⟨m, hm⟩ := hE.mx
  refine (Tryd.strings_Cut s ⟨#[c]⟩ m w (by omega) hm).mono fun e w' ⟨he, n, hw⟩ => ?_
  have e1 : Lib.cut s.data.toList (⟨#[c]⟩ : ByteArray).data.toList = (s.data.toList, [], false) := Adr.cut_miss c _ h
  rw [e1, Lib.mk_data] at he
  exact ⟨he, by rw [hw]; exact below_drews n⟩
theorem strip_any (s : ByteArray) (c : UInt8) (w : World) (hE : Env w) (hs : s.size ≤ 100000000) :
    Calls Tryd.prog 48 #[.string s, .string ⟨#[c]⟩, .string ⟨#[]⟩] w fun e w' => e = .returned (.string ⟨(Lib.replaceAll s.data.toList [c] []).toArray⟩) ∧ Below w.heap.size w w' := by
  obtain ⟨m, hm⟩ := hE.mx
  exact Tryd.strings_ReplaceAll s ⟨#[c]⟩ ⟨#[]⟩ m w (by omega) hm (Nat.le_refl 1) (by show s.size + _ * 0 ≤ _; omega)
theorem strip_len (l : List UInt8) (c : UInt8) : (Lib.replaceAll l [c] []).length ≤ l.length := by
  rw [Adr.replace_filter]; exact List.length_filter_le _ _
theorem glue_len (c : UInt8) (L : List (List UInt8)) (n : Nat) (h : ∀ p ∈ L, p.length ≤ n) : (Adr.glue c L).length ≤ L.length * (n + 1) := by
  induction L with
  | nil => simp [Adr.glue]
  | cons a r ih =>
    have ha := h a (by simp)
    have hr := ih fun p hp => h p (by simp [hp])
    rw [List.length_cons, Nat.add_mul]
    cases r with
    | nil => simp [Adr.glue]; omega
    | cons b r => rw [Adr.glue_more]; simp only [List.length_append, List.length_cons] at hr ⊢; omega
theorem join_any (A : Option Addr) (cap : Nat) (L : List (List UInt8)) (c : UInt8) (w : World) (hcap : L.length ≤ cap) (h : Rd w 1 A L.length (strs L)) (hz : ∀ ad, A = some ad → ad.spot = none)
    (hlen : (Adr.glue c L).length ≤ 140737488355328) (hN : L.length ≤ 1000000000) :
    Calls Tryd.prog 49 #[.slice A L.length cap, .string ⟨#[c]⟩] w fun e w' => e = .returned (.string ⟨(Adr.glue c L).toArray⟩) ∧ Below w.heap.size w w' := by
  rcases Nat.eq_zero_or_pos L.length with h0 | h0
  · have hL : L = [] := List.length_eq_zero_iff.1 h0
    subst hL
    exact (Tryd.strings_Join_none A cap ⟨#[c]⟩ w).mono fun e w' ⟨he, hw⟩ => ⟨he, by rw [hw]; exact Below.refl _ _⟩
  · obtain ⟨⟨b, o, sp⟩, rfl, hb, hx⟩ := h.2 h0
    obtain rfl : sp = none := hz _ rfl
    have e1 : (L.map fun l => (⟨l.toArray⟩ : ByteArray)).map (·.data.toList) = L := by rw [List.map_map]; simp [Function.comp_def]
    have hj : Lib.join ((L.map fun l => (⟨l.toArray⟩ : ByteArray)).map (·.data.toList)) (⟨#[c]⟩ : ByteArray).data.toList = Adr.glue c L := by rw [e1]; exact Adr.join_glue c L
    have hl : (L.map fun l => (⟨l.toArray⟩ : ByteArray)).length = L.length := by simp
    have hcalls := Tryd.strings_Join b o cap (L.map fun l => (⟨l.toArray⟩ : ByteArray)) ⟨#[c]⟩ w (fun j x hx' => by
      have hj' : j < L.length := by rw [← hl]; exact (List.getElem?_eq_some_iff.1 hx').1
      rw [← add_plain]
      refine hx j _ ?_
      rw [strs_get hj']
      rw [List.getElem?_map, List.getElem?_eq_getElem hj'] at hx'
      simp only [Option.map_some, Option.some.injEq] at hx'
      rw [hx']) hb (by omega) (by omega) (by rw [hj]; exact hlen)
    rw [hj, hl] at hcalls
    exact hcalls
theorem rd_own_spot {w : World} {base k n : Nat} {e : TypeId} {A : Option Addr} {c : Nat} {xs : List Value} (h : w.ownsRow base e k (.slice A n c) n xs) : ∀ ad, A = some ad → ad.spot = none := by
  rintro ad rfl
  rcases h.2 with ⟨hv, _⟩ | ⟨g, cap, cur, hv, _⟩
  · cases hv
  · injection hv with hA; injection hA with hA; rw [hA]

/-- strconv.ParseUint(s, 16, 48). -/
theorem hex_any (s : ByteArray) (w : World) (hE : Env w) (hs : s.size ≤ 100000000) :
    Calls Tryd.prog 47 #[.string s, .int .i64 16, .int .i64 48] w fun e w' => Parsed 96 (Adr.parseMac s.data.toList) e ∧ Below w.heap.size w w' := by
  obtain ⟨t1, p1, h1⟩ := hE.es
  obtain ⟨t2, p2, h2⟩ := hE.er
  exact parse16_any Tryd.laysPu14 s (by omega) t1 t2 p1 p2 w h1 h2
end Go.Proofs.YtlojeeakjgalpaaDoor
