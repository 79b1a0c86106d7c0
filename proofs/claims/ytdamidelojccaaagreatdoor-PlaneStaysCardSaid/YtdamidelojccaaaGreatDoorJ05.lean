import Derived.WalkMore
import Derived.Test.YtdamidelojccaaaGreatDoorJ04
set_option maxHeartbeats 4000000
set_option maxRecDepth 100000
namespace Go.Proofs
open Go.Shelf
def Tryz.lays143_ren : Go.Shelf.Ren := ⟨fun | 143 => 152 | 219 => 186 | 217 => 198 | 225 => 207 | 224 => 208 | 267 => 209 | 266 => 224 | 314 => 226 | n => n, fun | 9 => 9 | 3 => 3 | 4 => 4 | 5 => 5 | 46 => 170 | 146 => 277 | 51 => 205 | n => n, fun | 1 => 0 | n => n⟩
theorem Tryz.lays143 : Go.Proofs.Lays.n143 prog Tryz.lays143_ren := {
 mixed := by kernel_rfl
 f143 := func152.trans (congrArg some (by kernel_rfl))
 f217 := func198.trans (congrArg some (by kernel_rfl))
 f219 := func186.trans (congrArg some (by kernel_rfl))
 f224 := func208.trans (congrArg some (by kernel_rfl))
 f225 := func207.trans (congrArg some (by kernel_rfl))
 f266 := func224.trans (congrArg some (by kernel_rfl))
 f267 := func209.trans (congrArg some (by kernel_rfl))
 f314 := func226.trans (congrArg some (by kernel_rfl))
 t3 := underlying3
 a3 := Tryz.isAgg3
 z3 := Tryz.sizeOf3
 v3 := Tryz.zeroValue3
 t4 := underlying4
 a4 := Tryz.isAgg4
 z4 := Tryz.sizeOf4
 v4 := Tryz.zeroValue4
 t5 := underlying5
 a5 := Tryz.isAgg5
 z5 := Tryz.sizeOf5
 v5 := Tryz.zeroValue5
 t9 := underlying9
 a9 := Tryz.isAgg9
 z9 := Tryz.sizeOf9
 v9 := Tryz.zeroValue9
 t46 := underlying170
 a46 := Tryz.isAgg170
 z46 := Tryz.sizeOf170
 v46 := Tryz.zeroValue170
 t51 := underlying205
 a51 := Tryz.isAgg205
 z51 := Tryz.sizeOf205
 v51 := Tryz.zeroValue205
 t146 := underlying277
 a146 := Tryz.isAgg277
 z146 := Tryz.sizeOf277
 v146 := Tryz.zeroValue277
 g1 := by kernel_rfl }
open Go.RowKit Go.Lib in
theorem Tryz.strings_Index (s sub : ByteArray) (m : Int) (w : World) (hs : s.size < 4294967281) (hm : w.cell? ⟨0, 0, none⟩ = some (.int .i64 m)) :
 Calls prog 152 #[.string s, .string sub] w fun e w' => e = .returned (.int .i64 (Lib.index s.data.toList sub.data.toList)) ∧ w' = w := Any.strings_Index Tryz.lays143 s sub m w hs hm
open Go.RowKit Go.Lib Go.Sort in
theorem Tryz.slices_Reverse_string_cells (b off n c : Nat) (Sx : Nat → ByteArray) (w : World) (hbig : n ≤ 9223372036854775807) (hc : ∀ i, i < n → w.cell? ⟨b, off + i, none⟩ = some (.string (Sx i))) (hf : ∀ j, j < n → w.frozen? ⟨b, off + j, none⟩ = false) :
 Calls prog 64 #[.slice (some ⟨b, off, none⟩) n c] w fun e w' => e = .returned (.tuple #[]) ∧ ∃ q, w' = (w.drewN q).setCells b off ((Lib.strsOf Sx n).reverse.map encStr) := Any.slices_Reverse_string_cells Tryz.laysNm217 b off n c Sx w hbig hc hf
end Go.Proofs
namespace Go.Proofs.Zq
open Tryz
open Go Go.RowKit Go.Sort Lx
theorem Zaio {l : List UInt8} (h : l.getD 0 0 ≠ 34) : unqB l = if (decide (l ≠ []) && decide (runB l = l.length) && !(markB l)) = true then (if 40 < l.length then ([], 5) else (l, 0)) else ([], 2) := by
 unfold unqB;rw [Yae (p := l.getD 0 0 = 34) h];simp only [Bool.and_false, Bool.false_and, Ydu, if_false];by_cases hb : (decide (l ≠ []) && decide (runB l = l.length) && !(markB l)) = true
 · rw [Yan hb, Yan hb]
 · rw [Yab hb, Yab hb]
def Zdu (r : List UInt8 × Int) : Value := .tuple #[.string ⟨r.1.toArray⟩, .int .i64 r.2]
theorem Zaay (s : ByteArray) (w : World) (hs : s.size ≤ 1000000000) (hp : 0 < s.size) (h34 : s[0] ≠ 34) :
 Calls prog 131 #[.string s] w fun e w' => e = .returned (Zdu (unqB s.data.toList)) ∧ w' = w := by
 have HR := Zhd (Zaax s w hs);have HM := Zhd (Zasb s w);have hg : s.data.toList.getD 0 0 = s[0] := by
  rw [Yap, Yag (by rw [Zat]; exact hp)]; rfl
 have hU := Zaio (l := s.data.toList) (by rw [hg]; exact h34)
 have hl := Zat s;have hnz : s.data.toList ≠ [] := fun e => by rw [e] at hl; simp at hl; omega
 rw [Yal hnz, hl, Ydr] at hU;have HS : Hid (s = ⟨s.data.toList.toArray⟩) := (mk_data s).symm;have HU := Zhd hU;have he : s.toList.isEmpty = false := Zfr hp;have he2 : ¬ s.toList = [] := by simpa using he
 have hne : ((s[0].toNat : Int) == 34) = false := ne34 h34;have hrl := Zabe s.data.toList;rw [hl] at hrl;clear hU hg hl hnz h34;generalize runB s.data.toList = n at *;generalize markB s.data.toList = b at *;go_enter func131, ntmps131;by_cases hn : n = s.size
 · have hn' : ((n : Int) == (s.size : Int)) = true := by rw [beq_iff_eq]; omega
   cases b with
   | true =>
     have HK : Hid (unqB s.data.toList = ([], 2)) := by show _ = _; rw [HU.out]; simp
     clear HU HS;go_wp2_with (first | (go_at_call 164; refine HR.out.mono ?_; rintro e w' ⟨rfl, rfl⟩) | (go_at_call 165; refine HM.out.mono ?_; rintro e w' ⟨rfl, rfl⟩))
     all_goals exact bodyPost_ret (v := Zdu ([], 2)) (by simp [results, results131, go_sem, Zdu]) rfl ⟨by rw [HK.out], rfl⟩
   | false =>
     by_cases h40 : 40 < s.size
     · have HK : Hid (unqB s.data.toList = ([], 5)) := by show _ = _; rw [HU.out, Yal hn, Yan (by rfl), Yan h40]
       clear HU HS;go_wp2_with (first | (go_at_call 164; refine HR.out.mono ?_; rintro e w' ⟨rfl, rfl⟩) | (go_at_call 165; refine HM.out.mono ?_; rintro e w' ⟨rfl, rfl⟩))
       all_goals exact bodyPost_ret (v := Zdu ([], 5)) (by simp [results, results131, go_sem, Zdu]) rfl ⟨by rw [HK.out], rfl⟩
     · have HK : Hid (unqB s.data.toList = (s.data.toList, 0)) := by show _ = _; rw [HU.out, Yal hn, Yan (by rfl), Yab h40]
       have HV : Hid (Zdu (s.data.toList, 0) = .tuple #[.string s, .int .i64 0]) := by show _ = _; unfold Zdu; rw [← HS.out]
       clear HU HS;go_wp2_with (first | (go_at_call 164; refine HR.out.mono ?_; rintro e w' ⟨rfl, rfl⟩) | (go_at_call 165; refine HM.out.mono ?_; rintro e w' ⟨rfl, rfl⟩))
       all_goals exact bodyPost_ret (v := .tuple #[.string s, .int .i64 0]) (by simp [results, results131, go_sem]) rfl ⟨by rw [HK.out, HV.out], rfl⟩
 · have hn' : ((n : Int) == (s.size : Int)) = false := by rw [Yak]; omega
   have HK : Hid (unqB s.data.toList = ([], 2)) := by show _ = _; rw [HU.out, Yae hn]; rfl
   clear HU HS;go_wp2_with (first | (go_at_call 164; refine HR.out.mono ?_; rintro e w' ⟨rfl, rfl⟩) | (go_at_call 165; refine HM.out.mono ?_; rintro e w' ⟨rfl, rfl⟩))
   all_goals exact bodyPost_ret (v := Zdu ([], 2)) (by simp [results, results131, go_sem, Zdu]) rfl ⟨by rw [HK.out], rfl⟩
theorem Zaoa (l sub : List UInt8) : Lib.index l sub ≤ l.length := by
 induction l with
 | nil => unfold Lib.index; split <;> simp
 | cons b l ih =>
   unfold Lib.index;split
   · simp; omega
   · split
     · simp; omega
     · simp; omega
theorem Zaps (l sub : List UInt8) : -1 ≤ Lib.index l sub := by
 induction l with
 | nil => unfold Lib.index; split <;> simp
 | cons b l ih =>
   unfold Lib.index;split
   · omega
   · split
     · omega
     · omega
theorem Zabk (s : ByteArray) (p : Nat) (w : World) (hE : Env w) (hs : s.size ≤ 1000000000) (hp : p ≤ s.size) :
 Calls prog 127 #[.string s, .int .i64 p] w fun e w' => e = .returned (.int .i64 (comB s.data.toList p)) ∧ w' = w := by
 obtain ⟨m, hm⟩ := hE.mx;have hP1 := Tryz.strings_HasPrefix (s.extract p s.size) ⟨#[35]⟩ w;have hP2 := Tryz.strings_HasPrefix (s.extract p s.size) ⟨#[47, 42]⟩ w;have hI := Tryz.strings_IndexByte (s.extract p s.size) 10 w;have hsz := Zft (s := s) p s.size (Yaf _);have hJ := fun (h2 : 2 ≤ s.size - p) => Tryz.strings_Index ((s.extract p s.size).extract 2 (s.size - p)) ⟨#[42, 47]⟩ m w (by rw [Zft 2 (s.size - p) (by omega)]; omega) hm
 have hx2 : ∀ h2 : 2 ≤ s.size - p, ((s.extract p s.size).extract 2 (s.size - p)).data.toList = (s.data.toList.drop p).drop 2 := fun h2 => by
  have := Zmq (s.extract p s.size) 2;rw [hsz, Zmq] at this; exact this
 have hlen : (s.data.toList.drop p).length = s.size - p := by rw [Yam, Zat]
 rw [Zmq] at hP1 hP2 hI;have hX : comB s.data.toList p = (if Lib.hasPrefix (s.data.toList.drop p) [35] = true then (if Lib.indexByte (s.data.toList.drop p) 10 < 0 then (s.data.toList.length : Int) else (p : Int) + Lib.indexByte (s.data.toList.drop p) 10)
  else if Lib.hasPrefix (s.data.toList.drop p) [47, 42] = true then (if Lib.index ((s.data.toList.drop p).drop 2) [42, 47] < 0 then -1 else (p : Int) + Lib.index ((s.data.toList.drop p).drop 2) [42, 47] + 4) else (p : Int)) := rfl
 rw [Zat] at hX;have h2p : Lib.hasPrefix (s.data.toList.drop p) [47, 42] = true → 2 ≤ s.size - p := fun h => by
  rw [← hlen];have := List.IsPrefix.length_le (List.isPrefixOf_iff_prefix.1 h);simpa using this
 have hb1 := Zxh (s.data.toList.drop p) 10;have hb2 := Zaoa ((s.data.toList.drop p).drop 2) [42, 47];have hb3 := Zaps ((s.data.toList.drop p).drop 2) [42, 47];have hb4 := Lib.indexByte_ge (s.data.toList.drop p) 10;rw [hlen] at hb1;rw [Yam, hlen] at hb2;have hI2 : Calls prog 163 #[.string (s.extract p s.size), .int .u8 10] w fun e w' => e = .returned (.int .i64 (Lib.indexByte (s.data.toList.drop p) 10)) ∧ w' = w := hI
 have HJ := Zhd (fun h2 => by have := hJ h2; rw [hx2 h2] at this; exact this)
 have HX := Zhd hX;have HI := Zhd hI2;have HP1 := Zhd hP1;have HP2 := Zhd hP2;clear hX hI hI2 hJ hP1 hP2 hx2 hm hE;generalize Lib.hasPrefix (s.data.toList.drop p) [35] = a1 at *;generalize Lib.hasPrefix (s.data.toList.drop p) [47, 42] = a2 at *;generalize Lib.indexByte (s.data.toList.drop p) 10 = i1 at *;generalize Lib.index ((s.data.toList.drop p).drop 2) [42, 47] = i2 at *;clear hlen;cases a1 with
 | true =>
   by_cases h1 : i1 < 0
   · have HK : Hid (comB s.data.toList p = (s.size : Int)) := by show _ = _; rw [HX.out, Yan rfl, Yan h1]
     clear HX HJ h2p hb2 hb3;go_enter func127, ntmps127;go_wp2_with (first | (go_at_call 88; refine HP1.out.mono ?_; rintro e w' ⟨rfl, rfl⟩) | (go_at_call 163; refine HI.out.mono ?_; rintro e w' ⟨rfl, rfl⟩))
     go_ret;exact ⟨by rw [HK.out]; rfl, rfl⟩
   · have HK : Hid (comB s.data.toList p = (p : Int) + i1) := by show _ = _; rw [HX.out, Yan rfl, Yab h1]
     clear HX HJ h2p hb2 hb3;go_enter func127, ntmps127;go_wp2_with (first | (go_at_call 88; refine HP1.out.mono ?_; rintro e w' ⟨rfl, rfl⟩) | (go_at_call 163; refine HI.out.mono ?_; rintro e w' ⟨rfl, rfl⟩))
     go_ret;exact ⟨by rw [HK.out]; go_num, rfl⟩
 | false =>
   cases a2 with
   | true =>
     have h2 := h2p rfl;have HJ2 := Zhd (HJ.out h2);by_cases h1 : i2 < 0
     · have HK : Hid (comB s.data.toList p = -1) := by show _ = _; rw [HX.out, Yab (by decide), Yan rfl, Yan h1]
       clear HX HJ h2p hb1 hb4;go_enter func127, ntmps127;go_wp2_with (first | (go_at_call_of 88 (Value.string (s.extract p s.size)); (first | (refine HP1.out.mono ?_; rintro e w' ⟨rfl, rfl⟩) | (refine HP2.out.mono ?_; rintro e w' ⟨rfl, rfl⟩))) | (go_at_call 152; refine HJ2.out.mono ?_; rintro e w' ⟨rfl, rfl⟩))
       go_ret;exact ⟨by rw [HK.out]; rfl, rfl⟩
     · have HK : Hid (comB s.data.toList p = (p : Int) + i2 + 4) := by show _ = _; rw [HX.out, Yab (by decide), Yan rfl, Yab h1]
       clear HX HJ h2p hb1 hb4;go_enter func127, ntmps127;go_wp2_with (first | (go_at_call_of 88 (Value.string (s.extract p s.size)); (first | (refine HP1.out.mono ?_; rintro e w' ⟨rfl, rfl⟩) | (refine HP2.out.mono ?_; rintro e w' ⟨rfl, rfl⟩))) | (go_at_call 152; refine HJ2.out.mono ?_; rintro e w' ⟨rfl, rfl⟩))
       go_ret;exact ⟨by rw [HK.out]; go_num, rfl⟩
   | false =>
     have HK : Hid (comB s.data.toList p = (p : Int)) := by show _ = _; rw [HX.out, Yab (by decide), Yab (by decide)]
     clear HX HJ h2p hb1 hb2 hb3 hb4;go_enter func127, ntmps127;go_wp2_with (go_at_call_of 88 (Value.string (s.extract p s.size)); (first | (refine HP1.out.mono ?_; rintro e w' ⟨rfl, rfl⟩) | (refine HP2.out.mono ?_; rintro e w' ⟨rfl, rfl⟩)))
     go_ret;exact ⟨by rw [HK.out]; rfl, rfl⟩
end Go.Proofs.Zq
namespace Lx
open Go Go.Lib
theorem Zaji (l sub : List UInt8) : Lib.index l sub = -1 ∨ Lib.index l sub + sub.length ≤ l.length := by
 induction l with
 | nil =>
   unfold Lib.index;cases sub with
   | nil => right; simp
   | cons a b => left; rfl
 | cons b l ih =>
   unfold Lib.index;by_cases h1 : sub.isPrefixOf (b :: l) = true
   · rw [Yan h1]; right;have := (List.isPrefixOf_iff_prefix.1 h1).length_le;omega
   · rw [Yab h1];by_cases h2 : (Lib.index l sub == -1) = true
     · rw [Yan h2]; left; rfl
     · rw [Yab h2]; right;rcases ih with h | h
       · rw [h] at h2; exact absurd rfl h2
       · simp only [Ybi]; omega
theorem Zasn {l : List UInt8} {p : Nat} (hp : p < l.length) : comB l p < 0 ∨ comB l p = (p : Int) ∨ ((p : Int) < comB l p ∧ comB l p ≤ (l.length : Int)) := by
 unfold comB;simp only;have hd : l.drop p = l[p] :: l.drop (p + 1) := Yay hp;have hlen : (l.drop p).length = l.length - p := Yam;by_cases h1 : hasPrefix (l.drop p) [35] = true
 · rw [Yan h1];by_cases h2 : indexByte (l.drop p) 10 < 0
   · rw [Yan h2]; right; right; omega
   · rw [Yab h2]; right; right;have hc : l[p] = 35 := by
      rw [hd] at h1;have := (List.isPrefixOf_iff_prefix.1 h1);exact (List.cons_prefix_cons.1 this).1.symm
     have h3 := Zop (l.drop p) 10;rw [hlen] at h3;have h4 : indexByte (l.drop p) 10 ≠ 0 := by
      rw [hd, hc];unfold indexByte;rw [Yab (by decide)]
      have := indexByte_ge (l.drop (p + 1)) 10;split
      · omega
      · rename_i hh;have : indexByte (l.drop (p + 1)) 10 ≠ -1 := fun e => hh (by rw [e]; rfl)
        omega
     omega
 · rw [Yab h1];by_cases h2 : hasPrefix (l.drop p) [47, 42] = true
   · rw [Yan h2];by_cases h3 : index ((l.drop p).drop 2) [42, 47] < 0
     · rw [Yan h3]; left; omega
     · rw [Yab h3]; right; right;have := Zaji ((l.drop p).drop 2) [42, 47];simp only [Yam, Ybi, Ydx] at this;omega
   · rw [Yab h2]; right; left; rfl
theorem Zqe (s : List UInt8) : ∀ (f p : Nat), p ≤ s.length → (Zap s f p).1 ≤ s.length ∧ p ≤ (Zap s f p).1
 | 0, p, h => by unfold Zap; exact ⟨h, Yaf _⟩
 | f + 1, p, h => by
   unfold Zap;by_cases h1 : p < s.length
   · rw [Yan h1];by_cases h2 : Zre (s.getD p 0) = true
     · rw [Yan h2]; have := Zqe s f (p + 1) (by omega); omega
     · rw [Yab h2];by_cases h3 : comB s p < 0
       · rw [Yan h3]; exact ⟨h, Yaf _⟩
       · rw [Yab h3];by_cases h4 : comB s p = (p : Int)
         · rw [Yan h4]; exact ⟨h, Yaf _⟩
         · rw [Yab h4];have hc := Zasn h1;have := Zqe s f (comB s p).toNat (by omega)
           omega
   · rw [Yab h1]; exact ⟨h, Yaf _⟩
end Lx
namespace Go.Proofs.Zq
open Tryz
open Go Go.RowKit Go.Sort Lx
theorem Zahw (c : UInt8) : Zre c = (decide (c.toNat = 32) || decide (c.toNat = 9) || decide (c.toNat = 10) || decide (c.toNat = 13)) := by
 unfold Zre;have e : ∀ d : UInt8, (c == d) = decide (c.toNat = d.toNat) := fun d => by
  rw [Ycj, beq_iff_eq, Yao];exact ⟨fun h => by rw [h], fun h => Ybz.1 h⟩
 rw [e, e, e, e]; rfl
theorem Zaju {s : ByteArray} {k : Nat} (h : k < s.size) : s.data.toList.getD k 0 = s[k] := by
 rw [Yap, Yag (by rw [Zat]; exact h)]; rfl
def Zabo (r : Nat × Bool) : Value := .tuple #[.int .i64 r.1, .bool r.2]
theorem Zaev {s : ByteArray} {q f : Nat} (hq : q < s.size) : Zap s.data.toList (f + 1) q = if Zre s[q] = true then Zap s.data.toList f (q + 1) else if comB s.data.toList q < 0 then (q, false) else if comB s.data.toList q = (q : Int) then (q, true) else Zap s.data.toList f (comB s.data.toList q).toNat := by
 show (if q < s.data.toList.length then _ else _) = _
 rw [Yan (by rw [Zat]; exact hq), Zaju hq]
theorem Zafj (s : ByteArray) (p : Nat) (w : World) (hE : Env w) (hs : s.size ≤ 1000000000) (hp : p ≤ s.size) :
 Calls prog 96 #[.string s, .int .i64 p] w fun e w' => e = .returned (Zabo (Zap s.data.toList (s.size + 1) p)) ∧ w' = w := by
 have HC := Zhd (fun q (hq : q ≤ s.size) => Zabk s q w hE hs hq)
 have HA : Hid (∀ q, q < s.size → comB s.data.toList q < 0 ∨ comB s.data.toList q = (q : Int) ∨ ((q : Int) < comB s.data.toList q ∧ comB s.data.toList q ≤ (s.size : Int))) := fun q hq => by
  have := Zasn (l := s.data.toList) (p := q) (by rw [Zat]; exact hq)
  rwa [Zat] at this
 clear hE;go_enter func96, ntmps96;go_wp2;go_step3;go_wp2;go_step3;go_wp2;go_loopw [1] (fun vi wr => ∃ q f : Nat, q ≤ s.size ∧ s.size - q < f ∧ vi = .int .i64 q ∧ wr = w ∧ Hid (Zap s.data.toList (s.size + 1) p = Zap s.data.toList f q)) (fun vi _ => s.size - (intOf vi).toNat)
 case atStart => exact ⟨p, s.size + 1, hp, by omega, rfl, rfl, rfl⟩
 case round =>
  obtain ⟨q, f, hq, hf, rfl, rfl, HQ⟩ := hrel;by_cases hlt : q < s.size
  · obtain ⟨g, rfl⟩ : ∃ g, f = g + 1 := ⟨f - 1, by omega⟩
    have hst := HQ.out.trans (Zaev hlt);have HCq := Zhd (HC.out q hq);have ha := HA.out q hlt;have hbn := Zahw s[q];have hc256 := s[q].toNat_lt;clear HQ HC HA;generalize comB s.data.toList q = m at *;have HST := Zhd hst;clear hst;by_cases hbl : Zre s[q] = true
    · have HN : Hid (Zap s.data.toList (s.size + 1) p = Zap s.data.toList g (q + 1)) := by show _ = _; rw [HST.out, Yan hbl]
      rw [hbl] at hbn;clear HST hbl HCq ha;have h4 : s[q].toNat = 32 ∨ s[q].toNat = 9 ∨ s[q].toNat = 10 ∨ s[q].toNat = 13 := by
       have := hbn.symm;simp only [Bool.or_eq_true, Yao] at this;omega
      clear hbn hc256;rcases h4 with h4 | h4 | h4 | h4
      all_goals
       go_wp2
       all_goals
        go_roundw
        case rel => exact ⟨q + 1, g, by omega, by omega, by go_num, by simp, HN⟩
        case measure => simp [intOf]; omega
    · have hbf : Zre s[q] = false := by simpa using hbl
      rw [hbf] at hbn;have HST2 : Hid (Zap s.data.toList (s.size + 1) p = if m < 0 then (q, false) else if m = (q : Int) then (q, true) else Zap s.data.toList g m.toNat) := by show _ = _; rw [HST.out, Yab hbl]
      clear HST hbl hbf;have h4 : s[q].toNat ≠ 32 ∧ s[q].toNat ≠ 9 ∧ s[q].toNat ≠ 10 ∧ s[q].toNat ≠ 13 := by
       have := hbn.symm;simp only [Yev, decide_eq_false_iff_not] at this;omega
      clear hbn;have g1 : ((s[q].toNat : Int) == 32) = false := by rw [Yak]; omega
      have g2 : ((s[q].toNat : Int) == 9) = false := by rw [Yak]; omega
      have g3 : ((s[q].toNat : Int) == 10) = false := by rw [Yak]; omega
      have g4 : ((s[q].toNat : Int) == 13) = false := by rw [Yak]; omega
      clear h4 hc256;by_cases hm0 : m < 0
      · have HN : Hid (Zap s.data.toList (s.size + 1) p = (q, false)) := by show _ = _; rw [HST2.out, Yan hm0]
        clear HST2 ha;go_wp2_with (go_at_call 127; refine HCq.out.mono ?_; rintro e w' ⟨rfl, rfl⟩)
        all_goals
         try rw [Exit.noGoto_ret]
         exact bodyPost_ret (v := Zabo (q, false)) (by simp [results, results96, go_sem, Zabo]) rfl ⟨by rw [HN.out], rfl⟩
      · by_cases hmq : m = (q : Int)
        · have HN : Hid (Zap s.data.toList (s.size + 1) p = (q, true)) := by show _ = _; rw [HST2.out, Yab hm0, Yan hmq]
          subst hmq;clear HST2 ha;go_wp2_with (go_at_call 127; refine HCq.out.mono ?_; rintro e w' ⟨rfl, rfl⟩)
          all_goals
           try rw [Exit.noGoto_ret]
           exact bodyPost_ret (v := Zabo (q, true)) (by simp [results, results96, go_sem, Zabo]) rfl ⟨by rw [HN.out], rfl⟩
        · have HN : Hid (Zap s.data.toList (s.size + 1) p = Zap s.data.toList g m.toNat) := by show _ = _; rw [HST2.out, Yab hm0, Yab hmq]
          obtain ⟨k, rfl⟩ : ∃ k : Nat, m = (k : Int) := ⟨m.toNat, by omega⟩
          have hk1 : q < k ∧ k ≤ s.size := by omega
          have hkq : ((k : Int) == (q : Int)) = false := by rw [Yak]; omega
          have HN2 : Hid (Zap s.data.toList (s.size + 1) p = Zap s.data.toList g k) := HN;clear HST2 ha hmq HN;go_wp2_with (go_at_call 127; refine HCq.out.mono ?_; rintro e w' ⟨rfl, rfl⟩);go_roundw
          case rel => exact ⟨k, g, hk1.2, by omega, by go_num, by simp, HN2⟩
          case measure => simp [intOf]; omega
  · obtain rfl : q = s.size := by omega
    obtain ⟨g, rfl⟩ : ∃ g, f = g + 1 := ⟨f - 1, by omega⟩
    have HN : Hid (Zap s.data.toList (s.size + 1) p = (s.size, true)) := by
     show _ = _;rw [HQ.out];show (if s.size < s.data.toList.length then _ else _) = _
     rw [Yab (by rw [Zat]; omega)]
    clear HQ;go_wp2
    all_goals
     try rw [Exit.noGoto_ret]
     exact bodyPost_ret (v := Zabo (s.size, true)) (by simp [results, results96, go_sem, Zabo]) rfl ⟨by rw [HN.out], rfl⟩
end Go.Proofs.Zq
namespace Lx
open Go
def Tok.cells (t : Tok) : List Value := [.int .i64 t.kind, .int .i64 t.at_, .string t.word, .int .i64 t.bit]
def Tok.agg (t : Tok) : Value := .agg #[.int .i64 t.kind, .int .i64 t.at_, .string t.word, .int .i64 t.bit]
def toks (L : List Tok) : List Value := L.flatMap Tok.cells
theorem Zzo (L : List Tok) : (toks L).length = L.length * 4 := by
 unfold toks
 induction L with
 | nil => rfl
 | cons e L ih => simp only [Ybt, Yaj, ih, Ybi, Tok.cells]; simp; omega
theorem Zaoi (L : List Tok) (i j : Nat) (hi : i < L.length) (hj : j < 4) : (toks L)[i * 4 + j]? = (L[i].cells)[j]? := by
 unfold toks
 induction L generalizing i with
 | nil => cases hi
 | cons e L ih =>
   cases i with
   | zero => rw [Ybt, Ycf (by simp [Tok.cells]; omega)]; simp
   | succ i =>
     rw [Ybt, Ybh (by simp [Tok.cells]; omega), show (i + 1) * 4 + j - e.cells.length = i * 4 + j by simp [Tok.cells]; omega]
     simpa using ih i (by simpa using hi)
theorem Zqj (L M : List Tok) : toks (L ++ M) = toks L ++ toks M := by unfold toks; simp
theorem Zacp (e : Tok) : toks [e] = e.cells := by unfold toks; simp
theorem Zamv (e : Tok) : ∀ u ∈ e.cells, u.oneCell' = true := by
 intro u hu;simp only [Tok.cells, Yaw, Ybv, or_false] at hu;rcases hu with rfl | rfl | rfl | rfl <;> rfl
def Zni (r : Tok × Nat × Int) : Value := .tuple #[r.1.agg, .int .i64 r.2.1, .int .i64 r.2.2]
theorem Zatw {s : List UInt8} {p : Nat} {c : UInt8} (hc : s.getD p 0 = c) : tokB s p = if 0 < Zjy c then (⟨Zjy c, p, ⟨#[]⟩, 0⟩, p + 1, 0)
 else if Zfb (s.drop p) = 0 then (⟨0, 0, ⟨#[]⟩, 0⟩, 0, 2)
 else if 0 < bitB ((s.drop p).take (Zfb (s.drop p))) then (⟨5, p, ⟨#[]⟩, bitB ((s.drop p).take (Zfb (s.drop p)))⟩, p + Zfb (s.drop p), 0)
 else (⟨1, p, ⟨(unqB ((s.drop p).take (Zfb (s.drop p)))).1.toArray⟩, 0⟩, p + Zfb (s.drop p), (unqB ((s.drop p).take (Zfb (s.drop p)))).2) := by
 unfold tokB;rw [hc]
end Lx
namespace Go.Proofs.Zq
open Tryz
open Go Go.RowKit Go.Sort Lx
end Go.Proofs.Zq
namespace Lx
open Go
theorem Zapq {s : List UInt8} {p : Nat} (hp : p < s.length) (h : (tokB s p).2.2 = 0) : p < (tokB s p).2.1 ∧ (tokB s p).2.1 ≤ s.length := by
 have hle := Zun (s.drop p);rw [Yam] at hle;unfold tokB at h ⊢;by_cases h1 : 0 < Zjy (s.getD p 0)
 · rw [Yan h1];show p < p + 1 ∧ p + 1 ≤ s.length;omega
 · rw [Yab h1] at h ⊢;by_cases h2 : Zfb (s.drop p) = 0
   · rw [Yan h2] at h; simp at h
   · rw [Yab h2];simp only;split
     · show p < p + Zfb (s.drop p) ∧ p + Zfb (s.drop p) ≤ s.length;omega
     · show p < p + Zfb (s.drop p) ∧ p + Zfb (s.drop p) ≤ s.length;omega
section
variable {s : List UInt8} {f p : Nat} {out : List Tok}
theorem Zaxb (h : (Zap s (s.length + 1) p).2 = false) : Zlf s (f + 1) p out = ([], (Zap s (s.length + 1) p).1, 2) := by
 show (if (Zap s (s.length + 1) p).2 = false then _ else _) = _
 rw [Yan h]
theorem Zatj (h : (Zap s (s.length + 1) p).2 = true) (h1 : (Zap s (s.length + 1) p).1 = s.length) : Zlf s (f + 1) p out = (out, 0, 0) := by
 show (if (Zap s (s.length + 1) p).2 = false then _ else if (Zap s (s.length + 1) p).1 = s.length then _ else _) = _
 rw [Yab (by rw [h]; simp), Yan h1]
theorem Zavs (h : (Zap s (s.length + 1) p).2 = true) (h1 : (Zap s (s.length + 1) p).1 ≠ s.length) (h2 : (tokB s (Zap s (s.length + 1) p).1).2.2 ≠ 0) :
 Zlf s (f + 1) p out = ([], (Zap s (s.length + 1) p).1, (tokB s (Zap s (s.length + 1) p).1).2.2) := by
 show (if (Zap s (s.length + 1) p).2 = false then _ else if (Zap s (s.length + 1) p).1 = s.length then _ else if (tokB s (Zap s (s.length + 1) p).1).2.2 ≠ 0 then _ else _) = _
 rw [Yab (by rw [h]; simp), Yab h1, Yan h2]
theorem Zawh (h : (Zap s (s.length + 1) p).2 = true) (h1 : (Zap s (s.length + 1) p).1 ≠ s.length) (h2 : (tokB s (Zap s (s.length + 1) p).1).2.2 = 0) :
 Zlf s (f + 1) p out = Zlf s f (tokB s (Zap s (s.length + 1) p).1).2.1 (out ++ [(tokB s (Zap s (s.length + 1) p).1).1]) := by
 show (if (Zap s (s.length + 1) p).2 = false then _ else if (Zap s (s.length + 1) p).1 = s.length then _ else if (tokB s (Zap s (s.length + 1) p).1).2.2 ≠ 0 then _ else _) = _
 rw [Yab (by rw [h]; simp), Yab h1, Yab (by rw [h2]; simp)]
end
end Lx
namespace Go.Proofs.Zq
open Tryz
open Go Go.RowKit Go.Sort Lx
theorem Zapg : (prog.info? 156).map (fun i => (i.zero, i.size, i.bytes)) = some (some (.agg #[.int .i64 0, .int .i64 0, .string ⟨#[]⟩, .int .i64 0]), 4, 40) := by kernel_rfl
def Zajr (s : ByteArray) (w : World) (e : Ending) (w' : World) : Prop :=
 (∃ v, e = .returned (.tuple #[v, .int .i64 (allB s.data.toList).2.1, .int .i64 (allB s.data.toList).2.2]) ∧ w'.ownsRow w.heap.size 156 4 v (allB s.data.toList).1.length (toks (allB s.data.toList).1)) ∧ Below w.heap.size w w'
theorem Zzc {w : World} {base : Nat} {T : TypeId} {v : Value} {l : List Tok} {t : Tok} (h : w.ownsRow base T 4 v (l.length + 1) (toks l ++ t.cells)) : w.ownsRow base T 4 v (l ++ [t]).length (toks (l ++ [t])) := by
 rw [Zqj, Zacp, Yaj]; exact h
end Go.Proofs.Zq
