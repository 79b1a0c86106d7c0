import Derived.Sort.LotA
import Derived.Lib.OwnBridge
import Derived.Test.YtdamidelojccaaaGreatDoorJ09
set_option maxHeartbeats 2000000
set_option maxRecDepth 100000
namespace Prs
open Go Go.Lib Go.Sort Go.Proofs Tre Lx
structure Pre {α : Type} (c : α → α → Int) : Prop where
 same : ∀ a, c a a = 0
 anti : ∀ a b, c a b < 0 ↔ 0 < c b a
 trans : ∀ a b d, c a b ≤ 0 → c b d ≤ 0 → c a d ≤ 0
theorem Pre.le_iff {α : Type} {c : α → α → Int} (h : Pre c) (a b : α) : c a b ≤ 0 ↔ 0 ≤ c b a := by
 have := h.anti b a;constructor <;> intro h1 <;> omega
theorem Pre.zero_iff {α : Type} {c : α → α → Int} (h : Pre c) (a b : α) : c a b = 0 ↔ c b a = 0 := by
 have h1 := h.anti a b;have h2 := h.anti b a;constructor <;> intro h0 <;> omega
theorem Pre.strict {α : Type} {c : α → α → Int} (h : Pre c) {a b d : α} (h1 : c a b < 0) (h2 : c b d ≤ 0) : c a d < 0 := by
 have h3 := h.trans a b d (by omega) h2
 rcases Yeb h3 with h4 | h4
 · exact h4
 · have h5 : c d a ≤ 0 := by rw [(h.zero_iff a d).1 h4]; omega
   have h6 := h.trans b d a h2 h5;have := h.anti a b;omega
theorem Pre.by {α β : Type} {c : α → α → Int} (h : Pre c) (f : β → α) : Pre fun a b => c (f a) (f b) where
 same _ := h.same _
 anti _ _ := h.anti _ _
 trans _ _ _ := h.trans _ _ _
theorem Zahr (a : List UInt8) : compareBytes a a = 0 := by
 induction a with
 | nil => rfl
 | cons x a ih => unfold compareBytes; rw [Yab (UInt8.lt_irrefl x), Yab (UInt8.lt_irrefl x), ih]
theorem Zoc : ∀ {a b : List UInt8}, compareBytes a b = 0 → a = b
 | [], [], _ => rfl
 | [], _ :: _, h => by simp [compareBytes] at h
 | _ :: _, [], h => by simp [compareBytes] at h
 | x :: a, y :: b, h => by
   unfold compareBytes at h;split at h
   · simp at h
   · split at h
     · simp at h
     · rename_i h1 h2;have hxy : x = y := by
        rw [UInt8.lt_iff_toNat_lt] at h1 h2;exact Ybz.1 (by omega)
       rw [hxy, Zoc h]
theorem Zsm : ∀ {a b : List UInt8}, compareBytes a b < 0 ↔ a < b
 | [], [] => by simp [compareBytes]
 | [], _ :: _ => by simp [compareBytes]
 | _ :: _, [] => by simp [compareBytes]
 | x :: a, y :: b => by
   unfold compareBytes;rw [List.cons_lt_cons_iff];split
   · rename_i h1; exact ⟨fun _ => .inl h1, fun _ => by omega⟩
   · rename_i h1;split
     · rename_i h2;refine ⟨fun h => by omega, ?_⟩
       rintro (h | ⟨h, -⟩)
       · exact absurd h h1
       · subst h; exact absurd h2 (UInt8.lt_irrefl _)
     · rename_i h2;have hxy : x = y := by
        rw [UInt8.lt_iff_toNat_lt] at h1 h2;exact Ybz.1 (by omega)
       subst hxy;rw [Zsm];exact ⟨fun h => .inr ⟨rfl, h⟩, fun h => h.resolve_left (UInt8.lt_irrefl _) |>.2⟩
theorem Zqs : ∀ (a b : List UInt8), compareBytes a b < 0 ↔ 0 < compareBytes b a
 | [], [] => by simp [compareBytes]
 | [], _ :: _ => by simp [compareBytes]
 | _ :: _, [] => by simp [compareBytes]
 | x :: a, y :: b => by
   unfold compareBytes;by_cases h1 : x < y
   · have h2 : ¬ y < x := fun h2 => by rw [UInt8.lt_iff_toNat_lt] at h1 h2; omega
     rw [Yan h1, Yab h2, Yan h1]; omega
   · by_cases h2 : y < x
     · rw [Yab h1, Yan h2, Yan h2]; omega
     · rw [Yab h1, Yab h2, Yab h2, Yab h1]; exact Zqs a b
theorem Zakw : Pre compareBytes where
 same := Zahr
 anti := Zqs
 trans a b d h1 h2 := by
  rcases Yeb h1 with h3 | h3
  · rcases Yeb h2 with h4 | h4
    · have := Zsm.2 (List.lt_trans (Zsm.1 h3) (Zsm.1 h4)); omega
    · rw [← Zoc h4]; exact h1
  · rw [Zoc h3]; exact h2
theorem Pre.swo {α : Type} {c : α → α → Int} (h : Pre c) : SWO (ltOf c) where
 irrefl a := by unfold ltOf; rw [h.same a]; rfl
 trans a b d h1 h2 := by
  unfold ltOf at *;rw [Yao] at *;exact h.strict h1 (by omega)
 ntrans a b d h1 h2 := by
  unfold ltOf at *;rw [decide_eq_false_iff_not] at *;have g1 := (h.le_iff b a).2 (by omega)
  have g2 := (h.le_iff d b).2 (by omega)
  have := (h.le_iff d a).1 (h.trans d b a g2 g1);omega
theorem Pre.parts {α : Type} {c : α → α → Int} (h : Pre c) (hz : ∀ a b, c a b = 0 → a = b) (x y : α) (h1 : ltOf c x y = false) (h2 : ltOf c y x = false) : x = y := by
 unfold ltOf at h1 h2;rw [decide_eq_false_iff_not] at h1 h2;have := h.anti y x;exact hz x y (by omega)
def Zax (N : List Nd) (i : Nat) : Nd := N.getD i ⟨⟨0, ByteArray.empty, 0⟩, 0⟩
theorem Zez {N : List Nd} {i : Nat} (h : i < N.length) : Zax N i = N[i] := by
 unfold Zax; rw [Yap, Yag h]; rfl
def isKid (N : List Nd) (u : Int) (i : Nat) : Bool := decide ((Zax N i).up = u)
def kidsTo (N : List Nd) (u : Int) (k : Nat) : List Nat := (List.range k).filter (isKid N u)
theorem kidsTo_succ (N : List Nd) (u : Int) (k : Nat) : kidsTo N u (k + 1) = if isKid N u k then kidsTo N u k ++ [k] else kidsTo N u k := by
 unfold kidsTo;rw [Ydn, Yco];cases h : isKid N u k <;> simp [h]
theorem kidsTo_len (N : List Nd) (u : Int) (k : Nat) : (kidsTo N u k).length ≤ k := by
 have := Ycc (isKid N u) (List.range k);rw [Yes] at this;exact this
def kidsB (N : List Nd) (u : Int) : List Nat := kidsTo N u N.length
theorem Zql {N : List Nd} {u : Int} {i : Nat} : i ∈ kidsB N u ↔ i < N.length ∧ (Zax N i).up = u := by
 unfold kidsB kidsTo isKid;rw [Yde, Ycz, Yao]
def cmpW (N : List Nd) (a b : Nat) : Int := compareBytes (Zax N a).line.word.data.toList (Zax N b).line.word.data.toList
theorem Zaek (N : List Nd) : Pre (cmpW N) := Zakw.by fun i => (Zax N i).line.word.data.toList
def Zcm (N : List Nd) (u : Int) : List Nat := (kidsB N u).mergeSort fun x y => !(ltOf (cmpW N)) y x
theorem Zcu {N : List Nd} {u : Int} {i : Nat} : i ∈ Zcm N u ↔ i < N.length ∧ (Zax N i).up = u := by
 unfold Zcm; rw [List.mem_mergeSort, Zql]
theorem Zqu (N : List Nd) (u : Int) : (Zcm N u).length = (kidsB N u).length := by unfold Zcm; simp
def Zpe (N : List Nd) : Prop := ∀ i j, i < N.length → j < N.length → (Zax N i).up = (Zax N j).up → (Zax N i).line.word = (Zax N j).line.word → i = j
def Kd (N : List Nd) (u : Int) : Type := {i : Nat // i ∈ kidsB N u}
def cmpK (N : List Nd) (u : Int) (a b : Kd N u) : Int := cmpW N a.1 b.1
theorem Zaen (N : List Nd) (u : Int) : Pre (cmpK N u) := (Zaek N).by Subtype.val
theorem Zajd {N : List Nd} {u : Int} (h : Zpe N) (a b : Kd N u) (h0 : cmpK N u a b = 0) : a = b := by
 obtain ⟨a1, a2⟩ := Zql.1 a.2;obtain ⟨b1, b2⟩ := Zql.1 b.2;refine Subtype.ext (h a.1 b.1 a1 b1 (a2.trans b2.symm) ?_);have := Zoc (show compareBytes _ _ = 0 from h0)
 exact ByteArray.ext (Ydz.1 this)
theorem Zams (N : List Nd) (u : Int) : ((show List (Kd N u) from (kidsB N u).attach).mergeSort fun x y => !(ltOf (cmpK N u)) y x).map (fun x => x.1) = Zcm N u := by
 unfold Zcm;have h := List.map_mergeSort (r := fun x y : Kd N u => !(ltOf (cmpK N u)) y x) (s := fun x y => !(ltOf (cmpW N)) y x) (f := fun x : Kd N u => x.1) (l := (kidsB N u).attach) (fun a _ b _ => rfl)
 rw [h];congr 1;exact List.attach_map_subtype_val _
def Zmi : Nat → List Nd → Int → List Line
 | 0, _, _ => []
 | k + 1, N, u => (Zcm N u).flatMap fun i => (Zax N i).line :: Zmi k N (i : Nat)
def Zvr (N : List Nd) : Prop := ∀ i, i < N.length → (Zax N i).up < i
theorem Zok {N : List Nd} (h : Zvr N) {u : Int} {i : Nat} (hi : i ∈ Zcm N u) : u < i := by
 obtain ⟨h1, h2⟩ := Zcu.1 hi;have := h i h1;omega
theorem Zaqs {N : List Nd} (h : Zvr N) {u : Int} (hu : (N.length : Int) ≤ u + 1) : Zcm N u = [] := by
 refine List.eq_nil_iff_forall_not_mem.2 fun i hi => ?_
 have h1 := Zok h hi;have h2 := (Zcu.1 hi).1;omega
end Prs
namespace Go.Proofs
open Go.Shelf
def Tryz.sortI6_ren : Go.Shelf.Ren := ⟨fun | 6 => 101 | 15 => 105 | 14 => 135 | 28 => 145 | 29 => 146 | 20 => 168 | 21 => 169 | 22 => 170 | 23 => 171 | 24 => 172 | 25 => 173 | 26 => 174 | 27 => 175 | 46 => 202 | 47 => 178 | 48 => 179 | 49 => 203 | 50 => 204 | 57 => 225 | n => n, fun | 22 => 119 | 24 => 3 | 25 => 167 | 3 => 3 | 39 => 170 | 0 => 0 | 53 => 205 | 55 => 207 | 4 => 4 | 46 => 199 | 45 => 198 | 50 => 83 | 5 => 5 | 9 => 9 | 66 => 237 | 70 => 241 | 76 => 259 | 77 => 159 | n => n, fun | n => n⟩
theorem Tryz.sortI6 : Go.Proofs.SlLaysF.n6 prog Tryz.sortI6_ren := {
 mixed := by kernel_rfl
 f6 := ⟨Tryz.f101.name, by decide, func101.trans (congrArg some (by kernel_rfl))⟩
 f14 := ⟨Tryz.f135.name, by decide, func135.trans (congrArg some (by kernel_rfl))⟩
 f15 := func105.trans (congrArg some (by kernel_rfl))
 f20 := ⟨Tryz.f168.name, by decide, func168.trans (congrArg some (by kernel_rfl))⟩
 f21 := ⟨Tryz.f169.name, by decide, func169.trans (congrArg some (by kernel_rfl))⟩
 f22 := ⟨Tryz.f170.name, by decide, func170.trans (congrArg some (by kernel_rfl))⟩
 f23 := ⟨Tryz.f171.name, by decide, func171.trans (congrArg some (by kernel_rfl))⟩
 f24 := ⟨Tryz.f172.name, by decide, func172.trans (congrArg some (by kernel_rfl))⟩
 f25 := ⟨Tryz.f173.name, by decide, func173.trans (congrArg some (by kernel_rfl))⟩
 f26 := ⟨Tryz.f174.name, by decide, func174.trans (congrArg some (by kernel_rfl))⟩
 f27 := ⟨Tryz.f175.name, by decide, func175.trans (congrArg some (by kernel_rfl))⟩
 f28 := func145.trans (congrArg some (by kernel_rfl))
 f29 := func146.trans (congrArg some (by kernel_rfl))
 f46 := ⟨Tryz.f202.name, by decide, func202.trans (congrArg some (by kernel_rfl))⟩
 f47 := func178.trans (congrArg some (by kernel_rfl))
 f48 := func179.trans (congrArg some (by kernel_rfl))
 f49 := ⟨Tryz.f203.name, by decide, func203.trans (congrArg some (by kernel_rfl))⟩
 f50 := ⟨Tryz.f204.name, by decide, func204.trans (congrArg some (by kernel_rfl))⟩
 f57 := ⟨Tryz.f225.name, by decide, func225.trans (congrArg some (by kernel_rfl))⟩
 t0 := underlying0
 a0 := Tryz.isAgg0
 z0 := Tryz.sizeOf0
 v0 := Tryz.zeroValue0
 t3 := underlying3
 a3 := Tryz.isAgg3
 z3 := Tryz.sizeOf3
 v3 := Tryz.zeroValue3
 t4 := underlying4
 a4 := Tryz.isAgg4
 z4 := Tryz.sizeOf4
 v4 := Tryz.zeroValue4
 t5 := underlying5
 a5 := Tryz.isAgg5
 z5 := Tryz.sizeOf5
 v5 := Tryz.zeroValue5
 t9 := underlying9
 a9 := Tryz.isAgg9
 z9 := Tryz.sizeOf9
 v9 := Tryz.zeroValue9
 t22 := underlying119
 a22 := Tryz.isAgg119
 z22 := Tryz.sizeOf119
 v22 := Tryz.zeroValue119
 a24 := Tryz.isAgg3
 z24 := Tryz.sizeOf3
 t25 := underlying167
 a25 := Tryz.isAgg167
 z25 := Tryz.sizeOf167
 v25 := Tryz.zeroValue167
 t39 := underlying170
 a39 := Tryz.isAgg170
 z39 := Tryz.sizeOf170
 v39 := Tryz.zeroValue170
 t45 := underlying198
 a45 := Tryz.isAgg198
 z45 := Tryz.sizeOf198
 v45 := Tryz.zeroValue198
 t46 := underlying199
 a46 := Tryz.isAgg199
 z46 := Tryz.sizeOf199
 v46 := Tryz.zeroValue199
 t50 := underlying83
 a50 := Tryz.isAgg83
 z50 := Tryz.sizeOf83
 v50 := Tryz.zeroValue83
 t53 := underlying205
 a53 := Tryz.isAgg205
 z53 := Tryz.sizeOf205
 v53 := Tryz.zeroValue205
 t55 := underlying207
 a55 := Tryz.isAgg207
 z55 := Tryz.sizeOf207
 v55 := Tryz.zeroValue207
 t66 := underlying237
 a66 := Tryz.isAgg237
 z66 := Tryz.sizeOf237
 v66 := Tryz.zeroValue237
 t70 := underlying241
 a70 := Tryz.isAgg241
 z70 := Tryz.sizeOf241
 v70 := Tryz.zeroValue241
 t76 := underlying259
 a76 := Tryz.isAgg259
 z76 := Tryz.sizeOf259
 v76 := Tryz.zeroValue259
 t77 := underlying159
 a77 := Tryz.isAgg159
 z77 := Tryz.sizeOf159
 v77 := Tryz.zeroValue159 }
def Tryz.sortI06_ren : Go.Shelf.Ren := ⟨fun | 6 => 101 | 15 => 105 | 14 => 135 | 28 => 145 | 29 => 146 | 20 => 168 | 21 => 169 | 22 => 170 | 23 => 171 | 24 => 172 | 25 => 173 | 26 => 174 | 27 => 175 | 46 => 202 | 47 => 178 | 48 => 179 | 49 => 203 | 50 => 204 | 57 => 225 | n => n, fun | 22 => 119 | 24 => 3 | 25 => 167 | 3 => 3 | 39 => 170 | 0 => 0 | 53 => 205 | 55 => 207 | 4 => 4 | 46 => 199 | 45 => 198 | 50 => 83 | 5 => 5 | 9 => 9 | 66 => 237 | 70 => 241 | 76 => 259 | 77 => 159 | n => n, fun | n => n⟩
theorem Tryz.sortI06 : Go.Proofs.SlLaysF0.n6 prog Tryz.sortI06_ren := {
 mixed := by kernel_rfl
 f6 := ⟨Tryz.f101.name, by decide, func101.trans (congrArg some (by kernel_rfl))⟩
 f14 := ⟨Tryz.f135.name, by decide, func135.trans (congrArg some (by kernel_rfl))⟩
 f15 := func105.trans (congrArg some (by kernel_rfl))
 f20 := ⟨Tryz.f168.name, by decide, func168.trans (congrArg some (by kernel_rfl))⟩
 f21 := ⟨Tryz.f169.name, by decide, func169.trans (congrArg some (by kernel_rfl))⟩
 f22 := ⟨Tryz.f170.name, by decide, func170.trans (congrArg some (by kernel_rfl))⟩
 f23 := ⟨Tryz.f171.name, by decide, func171.trans (congrArg some (by kernel_rfl))⟩
 f24 := ⟨Tryz.f172.name, by decide, func172.trans (congrArg some (by kernel_rfl))⟩
 f25 := ⟨Tryz.f173.name, by decide, func173.trans (congrArg some (by kernel_rfl))⟩
 f26 := ⟨Tryz.f174.name, by decide, func174.trans (congrArg some (by kernel_rfl))⟩
 f27 := ⟨Tryz.f175.name, by decide, func175.trans (congrArg some (by kernel_rfl))⟩
 f28 := func145.trans (congrArg some (by kernel_rfl))
 f29 := func146.trans (congrArg some (by kernel_rfl))
 f46 := ⟨Tryz.f202.name, by decide, func202.trans (congrArg some (by kernel_rfl))⟩
 f47 := func178.trans (congrArg some (by kernel_rfl))
 f48 := func179.trans (congrArg some (by kernel_rfl))
 f49 := ⟨Tryz.f203.name, by decide, func203.trans (congrArg some (by kernel_rfl))⟩
 f50 := ⟨Tryz.f204.name, by decide, func204.trans (congrArg some (by kernel_rfl))⟩
 f57 := ⟨Tryz.f225.name, by decide, func225.trans (congrArg some (by kernel_rfl))⟩
 t0 := underlying0
 a0 := Tryz.isAgg0
 z0 := Tryz.sizeOf0
 v0 := Tryz.zeroValue0
 t3 := underlying3
 a3 := Tryz.isAgg3
 z3 := Tryz.sizeOf3
 v3 := Tryz.zeroValue3
 t4 := underlying4
 a4 := Tryz.isAgg4
 z4 := Tryz.sizeOf4
 v4 := Tryz.zeroValue4
 t5 := underlying5
 a5 := Tryz.isAgg5
 z5 := Tryz.sizeOf5
 v5 := Tryz.zeroValue5
 t9 := underlying9
 a9 := Tryz.isAgg9
 z9 := Tryz.sizeOf9
 v9 := Tryz.zeroValue9
 t22 := underlying119
 a22 := Tryz.isAgg119
 z22 := Tryz.sizeOf119
 v22 := Tryz.zeroValue119
 t25 := underlying167
 a25 := Tryz.isAgg167
 z25 := Tryz.sizeOf167
 v25 := Tryz.zeroValue167
 t39 := underlying170
 a39 := Tryz.isAgg170
 z39 := Tryz.sizeOf170
 v39 := Tryz.zeroValue170
 t45 := underlying198
 a45 := Tryz.isAgg198
 z45 := Tryz.sizeOf198
 v45 := Tryz.zeroValue198
 t46 := underlying199
 a46 := Tryz.isAgg199
 z46 := Tryz.sizeOf199
 v46 := Tryz.zeroValue199
 t50 := underlying83
 a50 := Tryz.isAgg83
 z50 := Tryz.sizeOf83
 v50 := Tryz.zeroValue83
 t53 := underlying205
 a53 := Tryz.isAgg205
 z53 := Tryz.sizeOf205
 v53 := Tryz.zeroValue205
 t55 := underlying207
 a55 := Tryz.isAgg207
 z55 := Tryz.sizeOf207
 v55 := Tryz.zeroValue207
 t66 := underlying237
 a66 := Tryz.isAgg237
 z66 := Tryz.sizeOf237
 v66 := Tryz.zeroValue237
 t70 := underlying241
 a70 := Tryz.isAgg241
 z70 := Tryz.sizeOf241
 v70 := Tryz.zeroValue241
 t76 := underlying259
 a76 := Tryz.isAgg259
 z76 := Tryz.sizeOf259
 v76 := Tryz.zeroValue259
 t77 := underlying159
 a77 := Tryz.isAgg159
 z77 := Tryz.sizeOf159
 v77 := Tryz.zeroValue159 }
end Go.Proofs
namespace Go.Proofs.Zq
open Tryz
open Go Go.RowKit Go.Sort Tre Lx Prs
theorem RdB.up {B B' : Nat} {w : World} {k n : Nat} {A : Option Addr} {xs : List Value} (h : RdB B w k A n xs) (hb : B ≤ B') : RdB B' w k A n xs :=
 ⟨h.1, fun hn => by
  obtain ⟨ad, e, hl, hx⟩ := h.2 hn;exact ⟨ad, e, Ybx hl hb, hx⟩⟩
theorem RdB.rd {B : Nat} {w : World} {k n : Nat} {A : Option Addr} {xs : List Value} (h : RdB B w k A n xs) (hb : B ≤ w.heap.size) : Rd w k A n xs := h.up hb
theorem Zarh (N : List Nd) (A : Option Addr) (c pl a b : Nat) (ha : a < N.length) (hb : b < N.length) (w : World) (hl : w.cell? ⟨pl, 0, none⟩ = some (.slice A N.length c)) (hR : Rd w 4 A N.length (nds N)) :
 Calls prog 102 #[.int .i64 (a : Int), .int .i64 (b : Int), .pointer (some ⟨pl, 0, none⟩)] w fun e w' => e = .returned (.int .i64 (cmpW N a b)) ∧ ∃ n, w' = w.drewN n := by
 obtain ⟨g, o, e1, -, ad1, -, x1, -, -⟩ := hR.nd ha;obtain ⟨g2, o2, e2, -, ad2, -, x2, -, -⟩ := hR.nd hb;subst e1;obtain ⟨rfl, rfl⟩ : g = g2 ∧ o = o2 := by cases e2; exact ⟨rfl, rfl⟩
 have HX : Hid (cmpW N a b = Lib.compareBytes N[a].line.word.data.toList N[b].line.word.data.toList) := by
  show _ = _;unfold cmpW;rw [Zez ha, Zez hb]
 generalize N[a].line.word = s at *;generalize N[b].line.word = t at *;have HC := Zhd (fun W => Tryz.strings_Compare s t W)
 have k1 : (a : Int) < (N.length : Int) := by omega
 have k2 : (b : Int) < (N.length : Int) := by omega
 clear hR e2;go_enter func102, ntmps102;go_wp2_with fail;refine wp_region_still_tail 12 (by kernel_rfl) (by kernel_rfl) ?_
 simp only [List.take_succ_cons, List.take_zero, List.drop_succ_cons, Yei]
 repeat still_step
 refine wpStill_nil ?_;change wpList _ _ _ _ _ w.drew;go_wp2_with (go_at_call 103; refine (HC.out w.drew).mono ?_; rintro e w' ⟨rfl, rfl⟩);go_ret;exact ⟨Zcg HX.out.symm, 1, rfl⟩
theorem Zlz (w : World) (os : Array Obj) : Below w.heap.size w (grow w os) :=
 ⟨rfl, rfl, rfl, by simp [grow], fun k hk => by simp [grow, Array.getElem?_append_left hk]⟩
theorem Zkg {α : Type} [Inhabited α] {enc : α → Value} {B : Nat} {w : World} {g n : Nat} {d : Array α} {os : Array Obj} (hB : B ≤ w.heap.size) (hg : B ≤ g) : Below B w (sortWorld enc w g 0 n d os) := by
 have h1 : Below B w (putRow enc (Sort.ahead w n) g 0 d) := Lib.below_putRow (Yac _ _) hg;exact h1.trans ((Zlz _ os).mono (Yas hB h1.size))
theorem Zakd (N : List Nd) (u : Int) (hN : Zpe N) (hl2 : N.length ≤ 200) (A : Option Addr) (c pl base g cap : Nat) (w : World) (h0 : 0 < (kidsB N u).length) (hB : base ≤ w.heap.size) (hlp : pl < base) (hl : w.cell? ⟨pl, 0, none⟩ = some (.slice A N.length c)) (hR : RdB base w 4 A N.length (nds N))
 (hO : w.ownsRow base 3 1 (.slice (some ⟨g, 0, none⟩) (kidsB N u).length cap) (kidsB N u).length (iv (kidsB N u))) :
 Calls prog 101 #[.slice (some ⟨g, 0, none⟩) (kidsB N u).length cap, .func (.func 102) #[] #[.pointer (some ⟨pl, 0, none⟩)]] w fun e w' => e = .returned (.tuple #[]) ∧
  w'.ownsRow base 3 1 (.slice (some ⟨g, 0, none⟩) (kidsB N u).length cap) (kidsB N u).length (iv (Zcm N u)) ∧ Below base w w' := by
 have hI : Inhabited (Kd N u) := ⟨⟨(kidsB N u)[0], Yat h0⟩⟩;obtain ⟨zs, hzs⟩ : ∃ zs : List (Kd N u), zs = (kidsB N u).attach := ⟨_, rfl⟩;obtain ⟨enc, henc⟩ : ∃ enc : Kd N u → Value, enc = fun x => .int .i64 (x.1 : Int) := ⟨_, rfl⟩
 have hmap : ∀ l : List (Kd N u), l.map enc = iv (l.map fun x => x.1) := fun l => by rw [henc]; unfold iv; rw [Yeo]; rfl
 have hz1 : zs.map (fun x => x.1) = kidsB N u := by rw [hzs]; exact List.attach_map_subtype_val _
 have hO2 : w.ownsRow base 3 1 (.slice (some ⟨g, 0, none⟩) (kidsB N u).length cap) (kidsB N u).length (zs.map enc) := by rw [hmap, hz1]; exact hO
 obtain ⟨g', cap', e1, hbg, hgl, -, -, hzl, hH⟩ := Lib.holds_of_ownsRow hO2 (by simp)
 obtain rfl : g = g' := by cases e1; rfl
 have hcmp : CmpLays1 prog 102 #[.pointer (some ⟨pl, 0, none⟩)] enc (cmpK N u) g 0 zs.toArray.size w := fun m os dk _ x y => by
  have hb : Below base w (sortWorld enc w g 0 m dk os) := Zkg hB hbg;have h := Zarh N A c pl x.1 y.1 (Zql.1 x.2).1 (Zql.1 y.2).1 (sortWorld enc w g 0 m dk os) ((hb.cell (p := ⟨pl, 0, none⟩) hlp).trans hl) ((hR.below hb).rd (Yas hB hb.size));rw [henc] at h ⊢;refine Calls.mono h ?_;rintro e w' ⟨rfl, n, rfl⟩;exact ⟨rfl, n, #[], by rw [grow_empty]⟩
 have hlen : (kidsB N u).length ≤ 200 := Yas (kidsTo_len _ _ _) hl2;have h := Any.slices_SortFunc_total Tryz.sortI6 enc (fun x => by rw [henc]; rfl) (cmpK N u) (Zaen N u).swo 102 #[.pointer (some ⟨pl, 0, none⟩)] g 0 cap zs.toArray w (enters_of func102 (by kernel_rfl) rfl) hcmp hH hgl (by simp; omega) ((Zaen N u).parts (Zajd hN))
 have hs : zs.toArray.size = (kidsB N u).length := by simpa using hzl
 rw [hs] at h;refine h.mono ?_;rintro e w' ⟨rfl, n, os, rfl⟩;refine ⟨rfl, ?_, Zkg hB hbg⟩;have hS : (zs.mergeSort fun x y => !(ltOf (cmpK N u)) y x).map (fun x => x.1) = Zcm N u := by rw [hzs]; exact Zams N u
 have hyl : (zs.mergeSort fun x y => !(ltOf (cmpK N u)) y x).length = (kidsB N u).length := by simpa using hzl
 have hr := Lib.ownsRow_putRow (q := n) (k := (kidsB N u).length) hO2 hyl (Yaf _);rw [← hyl, Ybw, hyl, hmap, hS] at hr;exact Zah hr (Zlz _ os)
end Go.Proofs.Zq
namespace Prs
open Go Go.Lib Go.Sort Go.Proofs Tre Lx
def Zyh : Nat → List Nd → Int → List Nat
 | 0, _, _ => []
 | k + 1, N, u => (Zcm N u).flatMap fun i => i :: Zyh k N (i : Nat)
theorem Zyg : ∀ (k : Nat) (N : List Nd) (u : Int), Zmi k N u = (Zyh k N u).map fun i => (Zax N i).line
 | 0, _, _ => rfl
 | k + 1, N, u => by
   unfold Zmi Zyh;rw [List.map_flatMap];congr 1;funext i;rw [List.map_cons, ← Zyg k N (i : Nat)]
inductive BU (N : List Nd) (i : Nat) : Nat → Prop
 | self : BU N i i
 | step {p j : Nat} : BU N i p → j < N.length → (Zax N j).up = (p : Int) → BU N i j
theorem Zavo {N : List Nd} (h : Zvr N) {i j : Nat} (hb : BU N i j) : i ≤ j := by
 induction hb with
 | self => exact Yaf _
 | step _ h1 h2 ih =>
   have := h _ h1;omega
theorem Zawf {N : List Nd} (h : Zvr N) {u : Int} {i i' j : Nat} (hi : (Zax N i).up = u) (hl : i < N.length) (hi' : (Zax N i').up = u) (hl' : i' < N.length) (hb : BU N i j) (hb' : BU N i' j) : i = i' := by
 induction hb with
 | self =>
   cases hb' with
   | self => rfl
   | step h1 h2 h3 =>
     have a := Zavo h h1;have b := h i' hl';omega
 | step h1 h2 h3 ih =>
   cases hb' with
   | self =>
     have a := Zavo h h1;have b := h i hl;omega
   | step k1 k2 k3 =>
     rename_i p j p';have e : p = p' := by omega
     subst e;exact ih k1
theorem Zatb {N : List Nd} {i i2 j : Nat} (h4 : i2 < N.length) (h5 : (Zax N i2).up = (i : Int)) (h2 : BU N i2 j) : BU N i j := by
 induction h2 with
 | self => exact .step .self h4 h5
 | step _ a b ih => exact .step ih a b
theorem Zpo {N : List Nd} : ∀ {k : Nat} {u : Int} {j : Nat}, j ∈ Zyh k N u → ∃ i, i ∈ Zcm N u ∧ BU N i j ∧ j < N.length
 | 0, _, _, h => by cases h
 | k + 1, u, j, h => by
   unfold Zyh at h;obtain ⟨i, hi, hj⟩ := Ydi.1 h;rcases Yaw.1 hj with rfl | hj
   · exact ⟨j, hi, .self, (Zcu.1 hi).1⟩
   · obtain ⟨i2, h1, h2, h3⟩ := Zpo hj;refine ⟨i, hi, ?_, h3⟩;obtain ⟨h4, h5⟩ := Zcu.1 h1;exact Zatb h4 h5 h2
theorem Zrw (N : List Nd) (u : Int) : (Zcm N u).Nodup := by
 unfold Zcm;refine (List.mergeSort_perm _ _).nodup_iff.2 ?_;unfold kidsB kidsTo;exact List.Nodup.sublist List.filter_sublist List.nodup_range
theorem Zsd {N : List Nd} (h : Zvr N) : ∀ (k : Nat) (u : Int), (Zyh k N u).Nodup
 | 0, _ => List.nodup_nil
 | k + 1, u => by
   unfold Zyh;rw [Ydo, List.pairwise_flatMap];have hin : ∀ i j, i ∈ Zcm N u → j ∈ i :: Zyh k N (i : Nat) → BU N i j := fun i j _ hj => by
    rcases Yaw.1 hj with rfl | hj
    · exact .self
    · obtain ⟨i2, h1, h2, h3⟩ := Zpo hj;obtain ⟨h4, h5⟩ := Zcu.1 h1;exact Zatb h4 h5 h2
   refine ⟨fun i hi => ?_, ?_⟩
   · rw [← Ydo, List.nodup_cons];refine ⟨fun hm => ?_, Zsd h k _⟩
     obtain ⟨i2, h1, h2, -⟩ := Zpo hm;have a := Zok h h1;have b := Zavo h h2;omega
   · refine List.Pairwise.imp_of_mem ?_ (Ydo.1 (Zrw N u));intro a b ha hb hne x hx y hy e;subst e;obtain ⟨a1, a2⟩ := Zcu.1 ha;obtain ⟨b1, b2⟩ := Zcu.1 hb;exact hne (Zawf h a2 a1 b2 b1 (hin a x ha hx) (hin b x hb hy))
theorem Zaln : ∀ {n : Nat} {l : List Nat}, l.Nodup → (∀ x ∈ l, x < n) → l.length ≤ n := fun {n l} h hb => by
 have := List.Nodup.length_le_of_subset h (l₂ := List.range n) fun x hx => Ycz.2 (hb x hx)
 rwa [Yes] at this
theorem Zrm {N : List Nd} (h : Zvr N) (k : Nat) (u : Int) : (Zmi k N u).length ≤ N.length := by
 rw [Zyg, Yax];exact Zaln (Zsd h k u) fun x hx => by
  obtain ⟨-, -, -, h1⟩ := Zpo hx;exact h1
theorem Zsq {N : List Nd} (h : Zvr N) (k : Nat) (u : Int) (j : Nat) : (((Zcm N u).take j).flatMap fun i => (Zax N i).line :: Zmi k N (i : Nat)).length ≤ N.length := by
 refine Yas ?_ (Zrm h (k + 1) u)
 conv => rhs; unfold Zmi
 conv => rhs; rw [← Ybk j (Zcm N u), Yck, Yaj]
 omega
end Prs
namespace Tre
open Go
def Zeq (P : List ByteArray) : Nat → Nat → List Line → Option Nat
 | _, _, [] => none
 | p, i, l :: r =>
   if l.depth < (p : Int) then none
   else if (p : Int) < l.depth then Zeq P p (i + 1) r
   else if (l.word.toList == (P.getD p ⟨#[]⟩).toList) = false then Zeq P p (i + 1) r
   else if p + 1 = P.length then some i else Zeq P (p + 1) (i + 1) r
def Zar (L : List Line) (P : List ByteArray) : Option Nat := if P.length = 0 ∨ 16 < P.length then none else Zeq P 0 0 L
def Zou (o : Option Nat) : Int := match o with | some i => (i : Int) | none => 0
theorem Zmr {P : List ByteArray} : ∀ {L : List Line} {p i j : Nat}, Zeq P p i L = some j → i ≤ j ∧ j < i + L.length
 | [], _, _, _, h => by cases h
 | l :: r, p, i, j, h => by
   unfold Zeq at h;split at h
   · cases h
   split at h
   · have := Zmr h; simp; omega
   split at h
   · have := Zmr h; simp; omega
   split at h
   · cases h; simp
   · have := Zmr h; simp; omega
theorem Zcd {P : List ByteArray} {L : List Line} {j : Nat} (h : Zar L P = some j) : j < L.length := by
 unfold Zar at h;split at h
 · cases h
 · have := Zmr h; omega
end Tre
namespace Go.Proofs.Zq
open Tryz
open Go Go.RowKit Go.Sort Tre
theorem Zbr (A : Option Addr) (cap : Nat) (L : List Line) (Ap : Option Addr) (cp : Nat) (P : List ByteArray) (w : World) (hR : Rd w 3 A L.length (lines L)) (hcap : L.length ≤ cap) (hc : cap ≤ maxLen) (hr : Zab L = true) (hP : Rd w 1 Ap P.length (sv P)) (hcp : P.length ≤ cp) (_hc2 : cp ≤ maxLen) :
 Calls prog 34 #[.slice A L.length cap, .slice Ap P.length cp] w fun e w' => e = .returned (.tuple #[.int .i64 (Zou (Zar L P)), .bool (Zar L P).isSome]) ∧ Below w.heap.size w w' := by
 have HC := Zhd (Zbe A cap L w hR hcap hc);have h200 := Zas hr;have HR := Zhd hR;have HP := Zhd hP;have hRt : Hid (Zab L = true) := hr;have HF0 : Hid (Zar L P = if P.length = 0 ∨ 16 < P.length then none else Zeq P 0 0 L) := rfl
 unfold maxLen at hc _hc2;clear hR hr hP;go_enter func34, ntmps34;go_wp2_with fail;refine HC.out.mono ?_;rintro e w1 ⟨rfl, hb1⟩;clear HC;rw [hRt.out];by_cases h0 : P.length = 0
 · have HF : Hid (Zar L P = none) := by show _ = _; rw [HF0.out, Yan (.inl h0)]
   clear HF0;have hP0 : P = [] := Ycw.1 h0;subst hP0;go_wp2;exact bodyPost_ret (v := .tuple #[.int .i64 0, .bool false]) (by simp [results, results34, go_sem]) rfl ⟨by rw [HF.out]; rfl, hb1⟩
 · by_cases h16 : 16 < P.length
   · have HF : Hid (Zar L P = none) := by show _ = _; rw [HF0.out, Yan (.inr h16)]
     clear HF0;go_wp2;exact bodyPost_ret (v := .tuple #[.int .i64 0, .bool false]) (by simp [results, results34, go_sem]) rfl ⟨by rw [HF.out]; rfl, hb1⟩
   · have HF : Hid (Zar L P = Zeq P 0 0 L) := by show _ = _; rw [HF0.out, Yab (by omega)]
     have hz : ¬ (16 : Int) < (P.length : Int) := by omega
     have hz0 : ((P.length : Int) == 0) = false := by rw [Yak]; omega
     clear HF0;go_wp2;go_loopw [6, 24] (fun vp vi wr => ∃ k p : Nat, vi = .int .i64 k ∧ vp = .int .i64 p ∧ k ≤ L.length ∧ p < P.length ∧ Hid (Zar L P = Zeq P p k (L.drop k)) ∧ Below w.heap.size w wr) (fun _ vi _ => L.length - (intOf vi).toNat)
     case atStart => exact ⟨0, 0, rfl, rfl, by omega, by omega, HF, hb1⟩
     case round =>
      clear hb1 HF;obtain ⟨k, p, rfl, rfl, hk, hp, HQ, hb⟩ := hrel;by_cases hlt : k < L.length
      · obtain ⟨B, O, rfl, hab, hadd, x0, x1, x2⟩ := (HR.out.below hb).line hlt;obtain ⟨Bp, Op', rfl, hpb, hpadd, y0⟩ := (HP.out.below hb).strAt hp;have hbx := Zapb (w := wr) (T := 62) L[k] (Yac _ _);have hyx : (wr.alloc (.cells #[.int .i64 L[k].depth, .string L[k].word, .int .i64 L[k].mark] 62)).cell? ⟨Bp, Op' + p, none⟩ = some (.string P[p]) := by
         rw [World.cell?_alloc_lt _ _ _ hpb]; exact y0
        have hst : Hid (Zar L P = if L[k].depth < (p : Int) then none else if (p : Int) < L[k].depth then Zeq P p (k + 1) (L.drop (k + 1)) else if (L[k].word.toList == P[p].toList) = false then Zeq P p (k + 1) (L.drop (k + 1)) else if p + 1 = P.length then some k else Zeq P (p + 1) (k + 1) (L.drop (k + 1))) := by
         show _ = _;rw [HQ.out, Yay hlt, show P[p] = P.getD p ⟨#[]⟩ by simp [hp]]; rfl
        have hbb : Below w.heap.size w (wr.alloc (.cells #[.int .i64 L[k].depth, .string L[k].word, .int .i64 L[k].mark] 62)) := Zaa hb ((Yac _ _).alloc (Yaf _) _);obtain ⟨b0, b1, b2⟩ := hbx;have HB := Zhd hbb;clear hb hbb HQ b2;generalize L[k] = x at *;obtain ⟨y, hy⟩ : ∃ y, P[p] = y := ⟨_, rfl⟩;rw [hy] at hst hyx;clear y0 hy;by_cases hc1 : x.depth < (p : Int)
        · have HF : Hid (Zar L P = none) := by show _ = _; rw [hst.out, Yan hc1]
          clear hst;go_wp2;exact bodyPost_ret (v := .tuple #[.int .i64 0, .bool false]) (by simp [results, results34, go_sem]) rfl ⟨by rw [HF.out]; rfl, HB.out⟩
        · by_cases hc2' : (p : Int) < x.depth
          · have HQ2 : Hid (Zar L P = Zeq P p (k + 1) (L.drop (k + 1))) := by show _ = _; rw [hst.out, Yab hc1, Yan hc2']
            have g1 : decide ((p : Int) < x.depth) = true := Yal hc2';clear hst;go_wp2_with fail;go_quiet (fail);go_wp2;go_roundw
            case rel => exact ⟨k + 1, p, by go_num, rfl, by omega, hp, HQ2, below_drewN HB.out _⟩
            case measure => simp [intOf]; omega
          · have g1 : decide ((p : Int) < x.depth) = false := Yae hc2';cases g2 : x.word.toList == y.toList with
            | false =>
              have HQ2 : Hid (Zar L P = Zeq P p (k + 1) (L.drop (k + 1))) := by show _ = _; rw [hst.out, Yab hc1, Yab hc2', Yan g2]
              clear hst;go_wp2_with fail;go_quiet (fail);go_wp2;go_roundw
              case rel => exact ⟨k + 1, p, by go_num, rfl, by omega, hp, HQ2, below_drewN HB.out _⟩
              case measure => simp [intOf]; omega
            | true =>
              have g3 : ¬ (x.word.toList == y.toList) = false := by rw [g2]; decide
              by_cases hl : p + 1 = P.length
              · have HF : Hid (Zar L P = some k) := by show _ = _; rw [hst.out, Yab hc1, Yab hc2', Yab g3, Yan hl]
                have hlb : ((p : Int) == (P.length : Int) - 1) = true := by rw [beq_iff_eq]; omega
                clear hst g3;go_wp2_with fail;go_quiet (fail);go_wp2;exact bodyPost_ret (v := .tuple #[.int .i64 k, .bool true]) (by simp [results, results34, go_sem]) rfl ⟨by rw [HF.out]; rfl, below_drewN HB.out _⟩
              · have HQ2 : Hid (Zar L P = Zeq P (p + 1) (k + 1) (L.drop (k + 1))) := by show _ = _; rw [hst.out, Yab hc1, Yab hc2', Yab g3, Yab hl]
                have hlb : ((p : Int) == (P.length : Int) - 1) = false := by rw [Yak]; omega
                clear hst g3;go_wp2_with fail;go_quiet (fail);go_wp2;go_roundw
                case rel => exact ⟨k + 1, p + 1, by go_num, by go_num, by omega, by omega, HQ2, below_drewN HB.out _⟩
                case measure => simp [intOf]; omega
      · obtain rfl : k = L.length := by omega
        have HF : Hid (Zar L P = none) := by show _ = _; rw [HQ.out, Ydh]; rfl
        clear HQ;go_wp2;exact bodyPost_ret (v := .tuple #[.int .i64 0, .bool false]) (by simp [results, results34, go_sem]) rfl ⟨by rw [HF.out]; rfl, hb⟩
end Go.Proofs.Zq
namespace Tre
open Go
def Zhn (P : List ByteArray) : Bool := decide (P.length ≤ 40) && P.all fun l => decide (l.size ≤ 100)
end Tre
namespace Go.Proofs.Zq
open Tryz
open Go Go.RowKit Go.Sort Tre
theorem Zanw (A : Option Addr) (cap : Nat) (L : List ByteArray) (w : World) (hR : Rd w 1 A L.length (sv L)) (_hcap : L.length ≤ cap) (_hc : cap ≤ maxLen) :
 Calls prog 12 #[.slice A L.length cap] w fun e w' => e = .returned (.bool (Zhn L)) ∧ Below w.heap.size w w' := by
 have HR := Zhd hR;have HX : Hid (Zhn L = (decide (L.length ≤ 40) && L.all fun l => decide (l.size ≤ 100))) := rfl
 clear hR;unfold maxLen at _hc;go_enter func12, ntmps12;by_cases h1 : 40 < L.length
 · have hz : (40 : Int) < (L.length : Int) := by omega
   have HF : Hid (Zhn L = false) := by show _ = _; rw [HX.out, Yae (by omega)]; rfl
   go_wp2;go_ret;exact ⟨Zai (by rw [HF.out]), Yac _ _⟩
 · have hz : ¬ (40 : Int) < (L.length : Int) := by omega
   have HX2 : Hid (Zhn L = L.all fun l => decide (l.size ≤ 100)) := by show _ = _; rw [HX.out, Yal (by omega), Ydr]
   clear HX;go_wp2;go_loopw [3] (fun vk wr => ∃ k : Nat, vk = .int .i64 k ∧ k ≤ L.length ∧ Hid (Zhn L = (L.drop k).all fun l => decide (l.size ≤ 100)) ∧ wr = w) (fun vk _ => L.length - (intOf vk).toNat)
   case atStart => exact ⟨0, rfl, by omega, HX2, rfl⟩
   case round =>
    clear HX2;obtain ⟨k, rfl, hk, HQ, rfl⟩ := hrel;by_cases hlt : k < L.length
    · obtain ⟨B, O, rfl, hab, hadd, x1⟩ := HR.out.strAt hlt;have hst : Hid (Zhn L = (decide (L[k].size ≤ 100) && (L.drop (k + 1)).all fun l => decide (l.size ≤ 100))) := by
       show _ = _;rw [HQ.out, Yay hlt, Ycv]
      clear HQ;generalize L[k] = x at *;by_cases hx : 100 < x.size
      · have hz2 : (100 : Int) < (x.size : Int) := by omega
        have HF : Hid (Zhn L = false) := by show _ = _; rw [hst.out, Yae (by omega)]; rfl
        clear hst;go_wp2;go_ret;exact ⟨Zai (by rw [HF.out]), Yac _ _⟩
      · have hz2 : ¬ (100 : Int) < (x.size : Int) := by omega
        have HQ2 : Hid (Zhn L = (L.drop (k + 1)).all fun l => decide (l.size ≤ 100)) := by show _ = _; rw [hst.out, Yal (by omega), Ydr]
        clear hst;go_wp2_with fail;go_roundw
        case rel => exact ⟨k + 1, by go_num, by omega, HQ2, by first | rfl | trivial⟩
        case measure => simp [intOf]; omega
    · have HF : Hid (Zhn L = true) := by show _ = _; rw [HQ.out, Ybd (by omega)]; rfl
      clear HQ;go_wp2;go_ret;exact ⟨Zai (by rw [HF.out]), Yac _ _⟩
end Go.Proofs.Zq
namespace Tre
open Go
end Tre
namespace Go.Proofs.Zq
open Tryz
open Go Go.RowKit Go.Sort Tre
theorem Zabg {P : Program} {ops : Array Oper} {rest : List Oper} {o : Oper} {a : Act} {Q : Exit → Act → World → Prop} (hgd : o.guard = none) (s x : Operand) (t : TypeId)
 (ho : o.op = .call { callee := .builtin .append, args := #[s, x], argTypes := #[t, t] })
 (w0 wr : World) (e : TypeId) (i : TypeInfo) (z : Value) (size bytes : Nat) (ht : P.underlying t = some (.slice e)) (hi : P.info? e = some i) (hz : i.zero = some z)
 (hsize : i.size = size) (hby : i.bytes = bytes) (hzs : z.cells.size = size) (hsz : 0 < size) (hb64 : bytes ≤ 64)
 {v : Value} {n : Nat} {xs : List Value} (hown : wr.ownsRow w0.heap.size e size v n xs) (hb : Below w0.heap.size w0 wr) (hs : a.eval s = v)
 (A : Option Addr) (m c : Nat) (news : List Value) (hx : a.eval x = .slice A m c) (hR : Rd wr size A m news) (hnil : A = none → c = 0) (h1 : ∀ u ∈ news, u.oneCell' = true)
 (hN : n + m ≤ 1000000000)
 (h : ∀ v' w', w'.ownsRow w0.heap.size e size v' (n + m) (xs ++ news) → Below w0.heap.size w0 w' → wpList P ops Q rest (a.put o.dst v') w') :
 wpList P ops Q (o :: rest) a wr := by
 have hbytes : (n + m) * bytes ≤ 140737488355328 := Yas (Ydm hN hb64) (by decide)
 rcases A with _ | ad
 · have hm : m = 0 := by
    rcases Ybn m with h0 | h0
    · exact h0
    · obtain ⟨ad, h, -⟩ := hR.2 h0;cases h
   subst hm;have hn : news = [] := Yaq (by simpa using hR.1)
   subst hn;obtain rfl := hnil rfl;exact wpList_append_own_none hgd s x t ho w0.heap.size e i size ht hi v n xs hs hown hx (h v wr (by simpa using hown) hb)
 · refine wpList_append_own _ hgd s x t ho w0.heap.size e i z size bytes ht hi hz hsize hby hzs hsz v n xs hs hown ad m c news hx hR.1 ?_ h1 (by unfold maxLen; omega) hbytes hb.size ?_
   · intro j u hu;obtain ⟨ad', e', -, hc⟩ := hR.cell hu;injection e' with e'
     subst e';exact hc
   · intro v' w' hown' hg _;exact h v' w' hown' (hb.grown hg hb.size fun q hq => (hown.lt q hq).1)
theorem Zct {w : World} {base : Nat} {e : TypeId} {k : Nat} {v : Value} {n : Nat} {xs : List Value} (h : w.ownsRow base e k v n xs) : ∃ A c, v = .slice A n c ∧ n ≤ c ∧ c ≤ maxLen ∧ Rd w k A n xs ∧ ((A = none → c = 0) ∧ Zd A) := by
 rcases h.2 with ⟨rfl, rfl⟩ | ⟨g, cap, cur, rfl, hg, hh, hnc, hcm, hsz, ht⟩
 · exact ⟨none, 0, rfl, Yaf _, by unfold maxLen; omega, Rd.of_own (base := base) (e := e) (c := 0) h, fun _ => rfl, Zakx⟩
 · exact ⟨some ⟨g, 0, none⟩, cap, rfl, hnc, hcm, Rd.of_own h, (fun h => by cases h), Zamx g⟩
theorem Zkv {w : World} {base b2 : Nat} {e : TypeId} {k : Nat} {v : Value} {n : Nat} {xs : List Value} (h : w.ownsRow base e k v n xs) (hb : b2 ≤ base) : w.ownsRow b2 e k v n xs :=
 ⟨h.1, h.2.imp id fun ⟨g, cap, cur, h1, h2, h3⟩ => ⟨g, cap, cur, h1, Yas hb h2, h3⟩⟩
def Zaiw (w : World) (P : List ByteArray) (e : Ending) (w' : World) : Prop :=
 ∃ A c, e = .returned (.slice A P.length c) ∧ P.length ≤ c ∧ c ≤ maxLen ∧ Rd w' 1 A P.length (sv P) ∧ ((A = none → c = 0) ∧ Zd A) ∧ Below w.heap.size w w'
end Go.Proofs.Zq
namespace Tre
open Go
def Zdq (L : List Line) (k : Nat) : Line := match L[k]? with | some l => l | none => ⟨0, ⟨#[]⟩, 0⟩
theorem Zdf {L : List Line} {i : Nat} (h : i < L.length) : Zdq L i = L[i] := by unfold Zdq; rw [Yag h]
end Tre
namespace Go.Proofs.Zq
open Tryz
open Go Go.RowKit Go.Sort Tre
end Go.Proofs.Zq
