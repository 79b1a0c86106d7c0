/- The shelf's contracts that this seat's proofs use, laid at its dump by the kit's own lay-shelf.mjs and lay-plain.mjs, pruned by a program. Walks: the reference's parts; the library's Split, Cut, ReplaceAll at one byte, Join, in this seed's words. A walk: tree.Path. Walks: tree.Path. -/
import Derived.Shelf.Strings.Builder1
import Derived.Shelf.Strings.Builder2
import Derived.Shelf.Strings.OnBuilder
import Derived.Shelf.Strings.Trim
import Derived.Shelf.Small.Utf8
import Derived.Shelf.Small.Bits
import Derived.Shelf.Small.Strs
import Derived.Shelf.Small.Wraps
import Derived.Shelf.Strings.BuilderF
import Derived.Shelf.Strings.BuilderK
import Derived.Shelf.Utf8.RuneCount
import Derived.Shelf.Strings.Builder2Cap
import Derived.Shelf.Strconv.Atoi
import Derived.Shelf.Strconv.Itoa0
import Derived.Shelf.Strconv.Itoa1
import Derived.Shelf.LaysM
import Derived.Shelf.Strconv.Itoa2
import Derived.Shelf.Strconv.Itoa3
import Derived.Shelf.Strconv.AtoiErrFast
import Derived.Shelf.Strconv.ParseIntEmpty
import Derived.Shelf.Strconv.AtoiFail
import Derived.Shelf.Strconv.Clone
import Derived.Shelf.Strconv.SyntaxError
import Derived.Shelf.LaysC
import Derived.Shelf.Strconv.ToError
import Derived.Shelf.Strconv.AtoiErr
import Derived.Shelf.Strconv.ErrVar
import Derived.Shelf.Strconv.Lower
import Derived.Shelf.Strconv.ParseUint10
import Derived.Shelf.Strconv.ParseUint10Empty
import Derived.Shelf.Strconv.ParseUint10Any
import Derived.Shelf.Strconv.ParseInt10
import Derived.Shelf.Strconv.AtoiLong
import Derived.Shelf.Strconv.AtoiInnerAll
import Derived.Shelf.Strconv.RangeError
import Derived.Shelf.Strconv.ToErrorRange
import Derived.Shelf.Strconv.AtoiAll
import Derived.Shelf.Strconv.ErrVarAll
import Derived.Shelf.Strconv.ParseUintEmpty
import Derived.Shelf.Strconv.ParseUint10b64
import Derived.Shelf.Strconv.ParseUint10b32
import Derived.Shelf.Strconv.ParseUint10b16
import Derived.Shelf.Strconv.ParseUint10b8
import Derived.Shelf.Strconv.ParseUint10At
import Derived.Shelf.Strconv.ParseInt10At64
import Derived.Shelf.Strconv.ParseInt10At32
import Derived.Shelf.Strconv.ParseInt10At16
import Derived.Shelf.Strconv.ParseInt10At8
import Derived.Shelf.Strconv.ParseInt10All
import Derived.Ground.MpProg
import Derived.Shelf.Pu.ParseUintPublic10
import Derived.Shelf.Pu.ErrVarParseUint
import Derived.Shelf.Strings.Search1
import Derived.Shelf.Strings.Search2
import Derived.Shelf.Strings.Search3
import Derived.Shelf.Strings.Cut
import Derived.Shelf.Strings.Count
import Derived.Shelf.Strings.Shaped
import Derived.Shelf.Strings.Prefix
import Derived.Shelf.Strings.Split
import Derived.Shelf.Strings.Replace
import Derived.Shelf.Strings.SplitShaped
import Derived.Shelf.Strings.Runes
import Derived.Shelf.Strings.RuneCount
import Derived.Shelf.Strings.AsciiSet
import Derived.Shelf.Bits.Mul64
import Derived.Shelf.Strings.Repeat
import Derived.Shelf.Unicode.DecodeSlow
import Derived.Shelf.Strings.BuilderCap
import Derived.Shelf.Slices.Turned
import Derived.Ground.Names2Prog
import Derived.Shelf.Slices.ReverseS
import Derived.Shelf.Slices.Clone
import Derived.Shelf.Slices.SearchI
import Derived.Shelf.Slices.Cells
import Derived.Test.YtjdknhalcpkeaaaGreatDoorProg
import Derived.Lib.SplitLaws
import Derived.Test.YtjdknhalcpkeaaaGreatDoorJ03
import Derived.Test.YtjdknhalcpkeaaaGreatDoorJ01
import Derived.Test.YtjdknhalcpkeaaaGreatDoorJ02
namespace Go.Proofs
open Go.Shelf
def Tryz.lays143_ren : Go.Shelf.Ren := ⟨fun | 143 => 160 | 219 => 183 | 217 => 182 | 225 => 201 | 224 => 202 | 267 => 203 | 266 => 200 | 314 => 217 | n => n, fun | 9 => 9 | 3 => 3 | 4 => 4 | 5 => 5 | 46 => 119 | 146 => 231 | 51 => 161 | n => n, fun | 1 => 0 | n => n⟩
theorem Tryz.lays143 : Go.Proofs.Lays.n143 Tryz.prog Tryz.lays143_ren := {
 mixed := by kernel_rfl
 f143 := Tryz.func160.trans (congrArg some (by kernel_rfl))
 f217 := Tryz.func182.trans (congrArg some (by kernel_rfl))
 f219 := Tryz.func183.trans (congrArg some (by kernel_rfl))
 f224 := Tryz.func202.trans (congrArg some (by kernel_rfl))
 f225 := Tryz.func201.trans (congrArg some (by kernel_rfl))
 f266 := Tryz.func200.trans (congrArg some (by kernel_rfl))
 f267 := Tryz.func203.trans (congrArg some (by kernel_rfl))
 f314 := Tryz.func217.trans (congrArg some (by kernel_rfl))
 t3 := Tryz.underlying3
 a3 := Tryz.isAgg3
 z3 := Tryz.sizeOf3
 v3 := Tryz.zeroValue3
 t4 := Tryz.underlying4
 a4 := Tryz.isAgg4
 z4 := Tryz.sizeOf4
 v4 := Tryz.zeroValue4
 t5 := Tryz.underlying5
 a5 := Tryz.isAgg5
 z5 := Tryz.sizeOf5
 v5 := Tryz.zeroValue5
 t9 := Tryz.underlying9
 a9 := Tryz.isAgg9
 z9 := Tryz.sizeOf9
 v9 := Tryz.zeroValue9
 t46 := Tryz.underlying119
 a46 := Tryz.isAgg119
 z46 := Tryz.sizeOf119
 v46 := Tryz.zeroValue119
 t51 := Tryz.underlying161
 a51 := Tryz.isAgg161
 z51 := Tryz.sizeOf161
 v51 := Tryz.zeroValue161
 t146 := Tryz.underlying231
 a146 := Tryz.isAgg231
 z146 := Tryz.sizeOf231
 v146 := Tryz.zeroValue231
 g1 := by kernel_rfl }
open Go.RowKit Go.Lib in
theorem Tryz.strings_Index (s sub : ByteArray) (m : Int) (w : World) (hs : s.size < 4294967281) (hm : w.cell? ⟨0, 0, none⟩ = some (.int .i64 m)) :
 Calls Tryz.prog 160 #[.string s, .string sub] w fun e w' => e = .returned (.int .i64 (Lib.index s.data.toList sub.data.toList)) ∧ w' = w := Any.strings_Index Tryz.lays143 s sub m w hs hm
open Go.RowKit Go.Lib Go.Sort in
theorem Tryz.slices_Reverse_string_cells (b off n c : Nat) (Sx : Nat → ByteArray) (w : World) (hbig : n ≤ 9223372036854775807) (hc : ∀ i, i < n → w.cell? ⟨b, off + i, none⟩ = some (.string (Sx i))) (hf : ∀ j, j < n → w.frozen? ⟨b, off + j, none⟩ = false) :
 Calls Tryz.prog 91 #[.slice (some ⟨b, off, none⟩) n c] w fun e w' => e = .returned (.tuple #[]) ∧ ∃ q, w' = (w.drewN q).setCells b off ((Lib.strsOf Sx n).reverse.map encStr) := Any.slices_Reverse_string_cells Tryz.laysNm217 b off n c Sx w hbig hc hf
end Go.Proofs
namespace Adr
open Go
def PRel (c : UInt8) (l : List UInt8) (k f : Nat) (D : List (List UInt8)) : Prop :=
 (k ≤ l.length ∧ f ≤ k ∧ parts c l = D ++ parts c (l.drop f) ∧ c ∉ (l.drop f).take (k - f)) ∨ (k = l.length + 1 ∧ D = parts c l)
theorem PRel.start (c : UInt8) (l : List UInt8) : PRel c l 0 0 [] := .inl ⟨by omega, by omega, by simp, by simp⟩
theorem PRel.form {c : UInt8} {l : List UInt8} {k f : Nat} {D : List (List UInt8)} (h : PRel c l k f D) (hk : k ≤ l.length) : f ≤ k ∧ parts c l = D ++ parts c (l.drop f) ∧ c ∉ (l.drop f).take (k - f) := by
 rcases h with ⟨_, a⟩ | ⟨e, _⟩
 · exact a
 · omega
theorem PRel.seg {c : UInt8} {l : List UInt8} {k f : Nat} {D : List (List UInt8)} (h : PRel c l k f D) (hk : k < l.length) : l.drop f = (l.drop f).take (k - f) ++ l[k] :: l.drop (k + 1) := by
 have hf := (h.form (by omega)).1
 have e := (List.take_append_drop (k - f) (l.drop f)).symm
 rw [List.drop_drop, show f + (k - f) = k by omega, List.drop_eq_getElem_cons hk] at e
 exact e
theorem PRel.hit {c : UInt8} {l : List UInt8} {k f : Nat} {D : List (List UInt8)} (h : PRel c l k f D) (hk : k < l.length) (hc : l[k] = c) : PRel c l (k + 1) (k + 1) (D ++ [(l.drop f).take (k - f)]) := by
 have hs := h.seg hk
 obtain ⟨hf, hp, hn⟩ := h.form (by omega)
 rw [hc] at hs
 refine .inl ⟨by omega, by omega, ?_, by simp⟩
 rw [hp, (congrArg (parts c) hs).trans (parts_append _ _ _ hn)]
 simp
theorem PRel.other {c : UInt8} {l : List UInt8} {k f : Nat} {D : List (List UInt8)} (h : PRel c l k f D) (hk : k < l.length) (hc : l[k] ≠ c) : PRel c l (k + 1) f D := by
 obtain ⟨hf, hp, hn⟩ := h.form (by omega)
 refine .inl ⟨by omega, by omega, hp, ?_⟩
 have e : (l.drop f).take (k + 1 - f) = (l.drop f).take (k - f) ++ [l[k]] := by
  rw [show k + 1 - f = (k - f) + 1 by omega, List.take_succ_eq_append_getElem (by simp; omega)]
  congr 2
  rw [List.getElem_drop]
  congr 1; omega
 rw [e, List.mem_append, not_or]
 exact ⟨hn, by simpa using fun x => hc x.symm⟩
theorem PRel.last {c : UInt8} {l : List UInt8} {f : Nat} {D : List (List UInt8)} (h : PRel c l l.length f D) : PRel c l (l.length + 1) (l.length + 1) (D ++ [(l.drop f).take (l.length - f)]) := by
 obtain ⟨hf, hp, hn⟩ := h.form (by omega)
 refine .inr ⟨rfl, ?_⟩
 have e : (l.drop f).take (l.length - f) = l.drop f := List.take_of_length_le (by simp)
 rw [e] at hn ⊢
 rw [hp, parts_free _ _ hn]
theorem PRel.done {c : UInt8} {l : List UInt8} {f : Nat} {D : List (List UInt8)} (h : PRel c l (l.length + 1) f D) : D = parts c l := by
 rcases h with ⟨a, _⟩ | ⟨_, e⟩
 · omega
 · exact e
theorem parts_len (c : UInt8) (l : List UInt8) : (parts c l).length ≤ l.length + 1 := by
 induction l with
 | nil => simp [parts_nil]
 | cons b r ih =>
   by_cases h : b = c
   · subst h; rw [parts_at]; simp; omega
   · rw [parts_other _ _ _ h, ahead_length _ _ (parts_ne _ _)]; simp; omega
theorem parts_short (c : UInt8) (l p : List UInt8) (h : p ∈ parts c l) : p.length ≤ l.length := by
 induction l generalizing p with
 | nil => simp [parts_nil] at h; subst h; simp
 | cons b r ih =>
   by_cases hb : b = c
   · subst hb
     rw [parts_at, List.mem_cons] at h
     rcases h with rfl | h
     · simp
     · have := ih p h; simp; omega
   · rw [parts_other _ _ _ hb] at h
     cases hp : parts c r with
     | nil => exact absurd hp (parts_ne c r)
     | cons x y =>
       rw [hp] at h ih
       simp only [ahead, List.mem_cons] at h
       rcases h with rfl | h
       · have := ih x (by simp); simp; omega
       · have := ih p (by simp [h]); simp; omega
end Adr
namespace Go.Proofs.YtjdknhalcpkeaaaGreatDoor
open Go.RowKit
theorem info_string : (Tryz.prog.info? 9).map (fun i => (i.zero, i.size, i.bytes)) = some (some (.string ⟨#[]⟩), 1, 16) := by kernel_rfl
def PartsEnd (w : World) (c : UInt8) (l : List UInt8) (e : Ending) (w' : World) : Prop :=
 ∃ A cap, e = .returned (.slice A (Adr.parts c l).length cap) ∧ (Adr.parts c l).length ≤ cap ∧ cap ≤ maxLen ∧ Rd w' 1 A (Adr.parts c l).length (strs (Adr.parts c l)) ∧ Below w.heap.size w w'
def PartsAt (w : World) (c : UInt8) (l : List UInt8) (v f i : Value) (wr : World) : Prop :=
 ∃ (k q : Nat) (D : List (List UInt8)), k ≤ l.length + 1 ∧ q ≤ k ∧ i = .int .i64 k ∧ f = .int .i64 q ∧ D.length ≤ k ∧ wr.ownsRow w.heap.size 9 1 v D.length (strs D) ∧ Below w.heap.size w wr ∧ Hid (Adr.PRel c l k q D)
theorem own_push {w : World} {base : Nat} {v : Value} {s : ByteArray} {D : List (List UInt8)} {q k : Nat} (h : w.ownsRow base 9 1 v (D.length + 1) (strs D ++ [.string (s.extract q k)])) :
 w.ownsRow base 9 1 v (D ++ [(s.data.toList.drop q).take (k - q)]).length (strs (D ++ [(s.data.toList.drop q).take (k - q)])) := by
 rw [strs_append, strs_one, ← Lib.extract_eq, List.length_append]; exact h
set_option maxHeartbeats 1000000 in
set_option maxRecDepth 100000 in
theorem parts_any (s : ByteArray) (c : UInt8) (w : World) (hs : s.size ≤ 100000000) :
 Calls Tryz.prog 175 #[.string s, .int .u8 (c.toNat : Int)] w (PartsEnd w c s.data.toList) := by
 obtain ⟨i0, hi, hz0, hz1, hz2⟩ := info_parts info_string
 have hsz := size_data s
 have Hz := Lib.hid hsz
 have hc256 := c.toNat_lt
 clear hsz
 go_enter Tryz.func175, Tryz.ntmps175
 go_wp2
 go_loopw [5, 6, 7] (fun v f i wr => PartsAt w c s.data.toList v f i wr) (fun _ _ i _ => s.size + 1 - (intOf i).toNat)
 case atStart => exact ⟨0, 0, [], by omega, by omega, rfl, rfl, by simp, World.ownsRow_nil _ _ _ _, Below.refl _ _, Adr.PRel.start _ _⟩
 case round =>
  obtain ⟨k, q, D, hk, hq, rfl, rfl, hD, hown, hb, hP⟩ := hrel
  rw [Hz.out] at hk
  by_cases h1 : k ≤ s.size
  · by_cases h2 : k < s.size
    · have hlt2 : k < s.data.toList.length := by rw [Hz.out]; exact h2
      have hget : s.data.toList[k] = s[k] := rfl
      have hne : ((k : Int) == (s.size : Int)) = false := by rw [beq_eq_false_iff_ne]; omega
      by_cases h3 : s[k] = c
      · have hP' := Lib.hid (hP.out.hit hlt2 (hget.trans h3))
        have heq : ((s[k].toNat : Int) == (c.toNat : Int)) = true := by rw [h3]; simp
        clear h3 hget hP
        go_wp2_with (at_builtin; refine app_new rfl _ _ 42 rfl w wr 9 i0 _ 1 16 Tryz.underlying42 hi hz0 hz1 hz2 rfl (by decide) (by decide) hown hb rfl 1 1 [.string (s.extract q k)] rfl rfl (by simp; rfl) (by omega) ?_; intro v' w' hown' hb')
        go_roundw
        case rel => exact ⟨k + 1, k + 1, _, by rw [Hz.out]; omega, by omega, by go_num, by go_num, by simp; omega, own_push hown', hb', hP'⟩
        case measure => simp [intOf]; omega
      · have hP' := Lib.hid (hP.out.other hlt2 (fun e => h3 (hget.symm.trans e)))
        have hneq : ((s[k].toNat : Int) == (c.toNat : Int)) = false := by
         rw [beq_eq_false_iff_ne]; intro e; exact h3 (UInt8.toNat_inj.1 (by omega))
        clear h3 hget hP
        go_wp2_with fail
        go_roundw
        case rel => exact ⟨k + 1, q, _, by rw [Hz.out]; omega, by omega, by go_num, rfl, by omega, hown, hb, hP'⟩
        case measure => simp [intOf]; omega
    · obtain rfl : k = s.size := by omega
      have hP' := hP.out
      rw [← Hz.out] at hP'
      have hP2 := Lib.hid hP'.last
      rw [Hz.out] at hP2
      have heq : ((s.size : Int) == (s.size : Int)) = true := by simp
      clear hP hP'
      go_wp2_with (at_builtin; refine app_new rfl _ _ 42 rfl w wr 9 i0 _ 1 16 Tryz.underlying42 hi hz0 hz1 hz2 rfl (by decide) (by decide) hown hb rfl 1 1 [.string (s.extract q s.size)] rfl rfl (by simp; rfl) (by omega) ?_; intro v' w' hown' hb')
      go_roundw
      case rel => exact ⟨s.size + 1, s.size + 1, _, by rw [Hz.out]; omega, by omega, by go_num, by go_num, by simp; omega, own_push hown', hb', hP2⟩
      case measure => simp [intOf]
  · have hk1 : s.size < k := by omega
    have HD := Lib.hid (show D = Adr.parts c s.data.toList from by
     have hP' := hP.out
     rw [show k = s.data.toList.length + 1 by rw [Hz.out]; omega] at hP'
     exact hP'.done)
    clear hP h1
    go_wp2_with fail
    go_ret
    obtain ⟨A, cap, rfl, h5, h6, h7⟩ := rd_own hown
    rw [HD.out] at h5 h7
    exact ⟨A, cap, by rw [HD.out]; rfl, h5, h6, h7, hb⟩
end Go.Proofs.YtjdknhalcpkeaaaGreatDoor
namespace Tre
open Go
def wordAt (L : List Line) (i : Nat) : ByteArray := match L[i]? with | some l => l.word | none => ⟨#[]⟩
theorem wordAt_lt {L : List Line} {i : Nat} (h : i < L.length) : wordAt L i = L[i].word := by unfold wordAt; rw [List.getElem?_eq_getElem h]
def upsF (L : List Line) : Nat → Nat → List ByteArray
 | 0, _ => []
 | _ + 1, 0 => []
 | f + 1, k + 1 => wordAt L k :: upsF L f (underB L k + 1).toNat
theorem underB_lt (L : List Line) (k : Nat) : -1 ≤ underB L k ∧ underB L k < (k : Int) := underFrom_lt L _ k
theorem upsF_same (L : List Line) : ∀ f k, k ≤ f → upsF L f k = upsF L k k
 | 0, 0, _ => rfl
 | f + 1, 0, _ => rfl
 | f + 1, k + 1, h => by
   have hu := underB_lt L k
   show _ :: _ = _ :: _
   rw [upsF_same L f _ (by omega), upsF_same L k _ (by omega)]
termination_by f k => f + k
def ups (L : List Line) (k : Nat) : List ByteArray := upsF L k k
theorem ups_zero (L : List Line) : ups L 0 = [] := rfl
theorem ups_succ (L : List Line) (k : Nat) : ups L (k + 1) = wordAt L k :: ups L (underB L k + 1).toNat := by
 have hu := underB_lt L k
 show _ :: _ = _
 unfold ups
 rw [upsF_same L k _ (by omega)]
theorem ups_len (L : List Line) : ∀ k, (ups L k).length ≤ k
 | 0 => by rw [ups_zero]; simp
 | k + 1 => by
   have hu := underB_lt L k
   rw [ups_succ, List.length_cons]
   have := ups_len L (underB L k + 1).toNat
   omega
def pathB (L : List Line) (i : Nat) : List ByteArray := (ups L (i + 1)).reverse
theorem pathB_len (L : List Line) (i : Nat) : (pathB L i).length ≤ i + 1 := by unfold pathB; rw [List.length_reverse]; exact ups_len L _
theorem pathB_top (L : List Line) (i : Nat) (h : underB L i = -1) : pathB L i = [wordAt L i] := by unfold pathB; rw [ups_succ, h]; rfl
theorem pathB_sub (L : List Line) (i j : Nat) (h : underB L i = (j : Int)) : pathB L i = pathB L j ++ [wordAt L i] := by
 unfold pathB; rw [ups_succ, h, List.reverse_cons]; rfl
def sv (P : List ByteArray) : List Value := P.map Value.string
theorem sv_len (P : List ByteArray) : (sv P).length = P.length := by unfold sv; simp
theorem sv_get {P : List ByteArray} {j : Nat} (h : j < P.length) : (sv P)[j]? = some (.string P[j]) := by unfold sv; simp [h]
theorem sv_app (P Q : List ByteArray) : sv (P ++ Q) = sv P ++ sv Q := by unfold sv; simp
theorem sv_one (P : List ByteArray) : ∀ u ∈ sv P, u.oneCell' = true := by
 unfold sv; intro u hu
 obtain ⟨l, _, rfl⟩ := List.mem_map.1 hu
 rfl
end Tre
namespace Go.Proofs.YtjdknhalcpkeaaaGreatDoor
open Go Go.RowKit Go.Sort Tre
def Zd (A : Option Addr) : Prop := ∀ ad, A = some ad → ∃ g, ad = ⟨g, 0, none⟩
theorem zd_none : Zd none := fun _ h => by cases h
theorem zd_some (g : Nat) : Zd (some ⟨g, 0, none⟩) := fun ad h => by cases h; exact ⟨g, rfl⟩
def PathEnd (w : World) (P : List ByteArray) (e : Ending) (w' : World) : Prop :=
 ∃ A c, e = .returned (.tuple #[.slice A P.length c, .int .i64 0]) ∧ P.length ≤ c ∧ c ≤ maxLen ∧ Rd w' 1 A P.length (sv P) ∧ Zd A ∧ Below w.heap.size w w'
theorem own_push_str {w : World} {base : Nat} {T : TypeId} {v : Value} {l : List ByteArray} {k : ByteArray} (h : w.ownsRow base T 1 v (l.length + 1) (sv l ++ [.string k])) : w.ownsRow base T 1 v (l ++ [k]).length (sv (l ++ [k])) := by
 unfold sv at *; simpa using h
theorem Rd.strAt {w : World} {A : Option Addr} {P : List ByteArray} (h : Rd w 1 A P.length (sv P)) {i : Nat} (hi : i < P.length) :
 ∃ B O, A = some ⟨B, O, none⟩ ∧ B < w.heap.size ∧ (⟨B, O, none⟩ : Addr).add i = ⟨B, O + i, none⟩ ∧ w.cell? ⟨B, O + i, none⟩ = some (.string P[i]) := by
 obtain ⟨ad, e, hb, hx⟩ := h.2 (by omega)
 have h0 := hx i _ (sv_get hi)
 have hs : ad.spot = none := by
  have h00 := hx 0 _ (sv_get (by omega : 0 < P.length))
  exact World.cell?_spot h00
 obtain ⟨B, O, sp⟩ := ad
 obtain rfl : sp = none := hs
 rw [add_plain] at h0
 exact ⟨B, O, e, hb, add_plain _ _ _, h0⟩
theorem strsOf_list (l : List ByteArray) : ((Lib.strsOf (fun i => l.getD i ByteArray.empty) l.length).reverse.map encStr) = sv l.reverse := by
 have : Lib.strsOf (fun i => l.getD i ByteArray.empty) l.length = l.map (·.data.toList) := by
  unfold Lib.strsOf
  refine List.ext_getElem (by simp) fun i h1 h2 => ?_
  have hi : i < l.length := by simpa using h2
  simp [hi]
 rw [this, ← List.map_reverse, List.map_map]
 unfold sv
 refine List.map_congr_left fun s _ => ?_
 show Value.string ⟨s.data.toList.toArray⟩ = _
 rw [mk_data]
theorem below_cells {B : Nat} {a : World} (b : Nat) (hb : B ≤ b) : ∀ (vs : List Value) (o : Nat) {w : World}, Below B a w → Below B a (w.setCells b o vs)
 | [], _, _, h => h
 | v :: r, o, _, h => below_cells b hb r (o + 1) (h.setCell (p := ⟨b, o, none⟩) hb v)
theorem reverse_own {w w1 : World} {v : Value} {l : List ByteArray} (hown : w1.ownsRow w.heap.size 9 1 v l.length (sv l)) (hb : Below w.heap.size w w1) (hl : l.length ≤ 100000) :
 Calls Tryz.prog 91 #[v] w1 fun e w' => e = .returned (.tuple #[]) ∧ ∃ A c, v = .slice A l.length c ∧ l.length ≤ c ∧ c ≤ maxLen ∧ Rd w' 1 A l.length (sv l.reverse) ∧ Zd A ∧ Below w.heap.size w w' := by
 rcases hown.2 with ⟨rfl, h0⟩ | ⟨g, c, cur, rfl, hg, hh, hnc, hcm, hsz, ht⟩
 · obtain rfl : l = [] := List.length_eq_zero_iff.1 h0
   refine (Tryz.slices_Reverse_string_empty none 0 w1).mono ?_
   rintro e w' ⟨rfl, rfl⟩
   exact ⟨rfl, none, 0, rfl, Nat.le_refl _, by unfold maxLen; omega, Rd.nil, zd_none, hb⟩
 · refine (Tryz.slices_Reverse_string_cells g 0 l.length c (fun i => l.getD i ByteArray.empty) w1 (by omega) (fun i hi => ?_) (fun j hj => hown.frozenAt _)).mono ?_
   · rw [Nat.zero_add, hown.cellAt i (by omega), sv_get hi]; simp [hi]
   · rintro e w' ⟨rfl, q, rfl⟩
     rw [strsOf_list]
     have hlt := (hown.lt g rfl).2
     have hb2 : Below w.heap.size w ((w1.drewN q).setCells g 0 (sv l.reverse)) := below_cells g hg _ _ (below_drewN hb q)
     refine ⟨rfl, _, c, rfl, hnc, hcm, ⟨by rw [sv_len]; simp, fun hn => ⟨_, rfl, ?_, fun j u hu => ?_⟩⟩, zd_some g, hb2⟩
     · exact Nat.lt_of_lt_of_le hlt (below_cells (B := 0) (a := w1) g (Nat.zero_le _) (sv l.reverse) 0 (w := w1.drewN q) (below_drewN ((Below.refl _ _)) q)).size
     · have hj : j < l.length := by have := (List.getElem?_eq_some_iff.1 hu).1; rw [sv_len] at this; simpa using this
       rw [add_plain]
       have := World.cell?_setCells_in g (sv l.reverse) 0 (w1.drewN q) (fun i hi => by
        have hi' : i < l.length := by rw [sv_len] at hi; simpa using hi
        show (w1.cell? _).isSome = true
        rw [Nat.zero_add, hown.cellAt i (by omega), sv_get hi']; rfl) j (by rw [sv_len]; simpa using hj)
       rw [this, ← hu]
       exact (List.getElem?_eq_getElem _).symm
end Go.Proofs.YtjdknhalcpkeaaaGreatDoor
namespace Go.Proofs.YtjdknhalcpkeaaaGreatDoor
open Go Go.RowKit Go.Sort Tre
theorem thereB_lt {L : List Line} {n : Nat} (h : rightB L = true) (hn : n < L.length) : thereB L (n : Int) = true := by
 unfold thereB; rw [h, decide_eq_true (by omega), decide_eq_true (by omega)]; rfl
theorem right_len {L : List Line} (h : rightB L = true) : L.length ≤ 200 := by
 unfold rightB at h; simp only [Bool.and_eq_true, decide_eq_true_eq] at h; exact h.1
set_option maxHeartbeats 2000000 in
set_option maxRecDepth 100000 in
theorem path_lines (A : Option Addr) (cap : Nat) (L : List Line) (n : Nat) (w : World) (hR : Rd w 3 A L.length (lines L)) (hcap : L.length ≤ cap) (hc : cap ≤ maxLen) (hr : rightB L = true) (hn : n < L.length) :
 Calls Tryz.prog 56 #[.slice A L.length cap, .int .i64 n] w (PathEnd w (pathB L n)) := by
 obtain ⟨i0, hi, hz0, hz1, hz2⟩ := info_parts info_string
 have HC := Lib.hid (there_lines A cap L n w hR hcap hc)
 have HU : Hid (∀ (k : Nat) W, Below w.heap.size w W → k < L.length → Calls Tryz.prog 90 #[.slice A L.length cap, .int .i64 k] W fun e w' => e = .returned (.int .i64 (underB L k)) ∧ Below W.heap.size W w') := fun k W hb hk => by
  have := under_lines A cap L k W (hR.below hb) hcap hc
  rw [thereB_lt hr hk] at this; simpa using this
 have hth := thereB_lt hr hn
 have h200 := right_len hr
 have HR := Lib.hid hR
 unfold maxLen at hc
 clear hR hr
 go_enter Tryz.func56, Tryz.ntmps56
 go_wp2_with fail
 refine HC.out.mono ?_
 rintro e w1 ⟨rfl, hb1⟩
 clear HC
 rw [hth]
 go_wp2
 go_loopw [6, 7] (fun v vk wr => ∃ (k : Nat) (z : Int) (O : List ByteArray), vk = .int .i64 z ∧ z + 1 = (k : Int) ∧ k ≤ n + 1 ∧ Hid (O ++ ups L k = ups L (n + 1)) ∧ O.length + k ≤ n + 1 ∧ wr.ownsRow w.heap.size 9 1 v O.length (sv O) ∧ Below w.heap.size w wr) (fun _ vk _ => (intOf vk + 1).toNat)
 case atStart => exact ⟨n + 1, n, [], rfl, by omega, by omega, rfl, by simp, World.ownsRow_nil _ _ _ _, hb1⟩
 case round =>
  clear hb1
  obtain ⟨k, z, O, rfl, hzk, hk, HQ, hO, hown, hb⟩ := hrel
  by_cases hk0 : k = 0
  · have hz : z = -1 := by omega
    subst hz
    have HF : Hid (O = ups L (n + 1)) := by
     show _ = _
     rw [← HQ.out, hk0, ups_zero, List.append_nil]
    have HV := Lib.hid (reverse_own hown hb (by omega))
    have HL : Hid (O.reverse = pathB L n) := by show _ = _; rw [HF.out]; rfl
    clear HQ hzk HU HR HF
    go_wp2_with fail
    refine HV.out.mono ?_
    rintro e w3 ⟨rfl, A', c, rfl, hlc, hcm, hRd, hzd, hb3⟩
    have K : Hid (PathEnd w (pathB L n) (.returned (.tuple #[.slice A' O.length c, .int .i64 0])) w3) := by
     rw [← HL.out]
     exact ⟨A', c, by rw [List.length_reverse], by rw [List.length_reverse]; exact hlc, hcm, by rw [List.length_reverse]; exact hRd, hzd, hb3⟩
    clear HV hown hb hlc hcm hRd hzd hb3 HL
    go_wp2
    exact bodyPost_ret (v := .tuple #[.slice A' O.length c, .int .i64 0]) (by simp [results, Tryz.results56, go_sem]) rfl K.out
  · obtain ⟨p, rfl⟩ : ∃ p, k = p + 1 := ⟨k - 1, by omega⟩
    obtain rfl : z = (p : Int) := by omega
    have hpl : p < L.length := by omega
    obtain ⟨B, Of, rfl, hab, hadd, -, x1, -⟩ := (HR.out.below hb).line hpl
    have hst : Hid (ups L (p + 1) = L[p].word :: ups L (underB L p + 1).toNat) := by
     show _ = _
     rw [ups_succ, wordAt_lt hpl]
    have hul := underB_lt L p
    have HUp := Lib.hid (fun W hb => HU.out p W hb hpl)
    generalize L[p].word = x at *
    generalize underB L p = u at *
    have HQ2 : Hid ((O ++ [x]) ++ ups L (u + 1).toNat = ups L (n + 1)) := by
     show _ = _
     rw [List.append_assoc, ← HQ.out, hst.out]; rfl
    clear HQ hst HU
    go_wp2_with (at_builtin; refine app_new rfl _ _ 42 rfl w wr 9 i0 _ 1 16 Tryz.underlying42 hi hz0 hz1 hz2 rfl (by decide) (by decide) hown hb rfl 1 1 [.string x] rfl rfl (by simp; rfl) (by omega) ?_; intro v' w' hown' hb')
    refine (HUp.out _ hb').mono ?_
    rintro e w3 ⟨rfl, hb3⟩
    have hown3 := own_below (own_push_str hown') hb3
    have hb4 := below_step hb' hb3
    clear hown hb hown' hb' hb3 HUp x1 hadd hab
    go_wp2_with fail
    go_roundw
    case rel => exact ⟨(u + 1).toNat, u, O ++ [x], rfl, by omega, by omega, HQ2, by simp; omega, hown3, hb4⟩
    case measure => simp [intOf]; omega
end Go.Proofs.YtjdknhalcpkeaaaGreatDoor
