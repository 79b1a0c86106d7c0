import Derived.Deep.DeepCutAuto
import Derived.Deep.CutBlock
import Derived.StillTailTactics
import Derived.Test.YtdamidelojccaaaGreatDoorJ08
set_option maxHeartbeats 4000000
set_option maxRecDepth 100000
namespace Prs
open Go Go.Lib Tre Lx
def Zbk {α : Type} (f : α → Bool) : Nat → List α → Int
 | _, [] => -1
 | k, r :: l => if f r then (k : Int) else Zbk f (k + 1) l
theorem Zadr {α : Type} {f : α → Bool} {L : List α} {k : Nat} (h : k < L.length) : Zbk f k (L.drop k) = if f L[k] then (k : Int) else Zbk f (k + 1) (L.drop (k + 1)) := by
 rw [Yay h]; rfl
theorem Zzf {α : Type} (f : α → Bool) : ∀ (l : List α) (k : Nat), decide (0 ≤ Zbk f k l) = l.any f
 | [], _ => rfl
 | r :: l, k => by
   unfold Zbk;rw [List.any_cons];cases h : f r with
   | true => rw [Yan rfl, Yal (by omega)]; rfl
   | false => rw [Yab (by simp), Zzf f l (k + 1)]; rfl
def Zafr (u : Int) (s : ByteArray) (n : Nd) : Bool := decide (n.up = u) && decide (n.line.word = s)
theorem bts_same {a b : ByteArray} (h : a.toList = b.toList) : a = b := ByteArray.ext (Ydz.1 (by rwa [Lib.toList_data, Lib.toList_data] at h))
end Prs
namespace Go.Proofs.Zq
open Tryz
open Go Go.RowKit Go.Sort Tre Lx Prs
theorem Zaiv (n : Nd) (pu pw : Nat) (u : Int) (s : ByteArray) (w : World) (hu : w.cell? ⟨pu, 0, none⟩ = some (.int .i64 u)) (hs : w.cell? ⟨pw, 0, none⟩ = some (.string s)) :
 Calls prog 134 #[n.agg, .pointer (some ⟨pu, 0, none⟩), .pointer (some ⟨pw, 0, none⟩)] w fun e w' => e = .returned (.bool (Zafr u s n)) ∧ Below w.heap.size w w' := by
 have hul := Lib.lt_of_cell hu;have hsl := Lib.lt_of_cell hs;simp only at hul hsl;obtain ⟨⟨nd, nw, nm⟩, nu⟩ := n;unfold Nd.agg Zafr;simp only;have hb := Zhd ((Yac w.heap.size w).alloc (Yaf _) (.cells #[.int .i64 nd, .string nw, .int .i64 nm, .int .i64 nu] 164));by_cases h1 : nu = u
 · have q1 : (nu == u) = true := beq_iff_eq.2 h1;by_cases h2 : nw = s
   · have q2 : (nw.toList == s.toList) = true := by rw [h2]; exact beq_self_eq_true _
     have HX : Hid ((decide (nu = u) && decide (nw = s)) = true) := by show _ = _; rw [Yal h1, Yal h2]; rfl
     clear h1 h2;go_enter func134, ntmps134;go_wp2;go_ret;exact ⟨by rw [HX.out]; rfl, hb.out⟩
   · have q2 : (nw.toList == s.toList) = false := by rw [Yak]; exact fun e => h2 (Prs.bts_same e)
     have HX : Hid ((decide (nu = u) && decide (nw = s)) = false) := by show _ = _; rw [Yae h2, Bool.and_false]
     clear h1 h2;go_enter func134, ntmps134;go_wp2;go_ret;exact ⟨by rw [HX.out]; rfl, hb.out⟩
 · have q1 : (nu == u) = false := Yak.2 h1;have HX : Hid ((decide (nu = u) && decide (nw = s)) = false) := by show _ = _; rw [Yae h1, Bool.false_and]
   clear h1;go_enter func134, ntmps134;go_wp2;go_ret;exact ⟨by rw [HX.out]; rfl, hb.out⟩
theorem Rd.nd {w : World} {A : Option Addr} {L : List Nd} (h : Rd w 4 A L.length (nds L)) {i : Nat} (hi : i < L.length) :
 ∃ b o, A = some ⟨b, o, none⟩ ∧ b < w.heap.size ∧ (⟨b, o, none⟩ : Addr).add (i * 4) = ⟨b, o + i * 4, none⟩ ∧ w.cell? ⟨b, o + i * 4, none⟩ = some (.int .i64 L[i].line.depth) ∧ w.cell? ⟨b, o + i * 4 + 1, none⟩ = some (.string L[i].line.word) ∧
   w.cell? ⟨b, o + i * 4 + 2, none⟩ = some (.int .i64 L[i].line.mark) ∧ w.cell? ⟨b, o + i * 4 + 3, none⟩ = some (.int .i64 L[i].up) := by
 obtain ⟨ad, e, hb, hx⟩ := h.2 (by omega)
 have g := fun j (hj : j < 4) => Zame L i j hi hj
 have h0 := hx (i * 4) _ (by have := g 0 (by omega); simpa [Nd.cells, Line.cells] using this)
 have h1 := hx (i * 4 + 1) _ (by have := g 1 (by omega); simpa [Nd.cells, Line.cells] using this)
 have h2 := hx (i * 4 + 2) _ (by have := g 2 (by omega); simpa [Nd.cells, Line.cells] using this)
 have h3 := hx (i * 4 + 3) _ (by have := g 3 (by omega); simpa [Nd.cells, Line.cells] using this)
 have hs : ad.spot = none := by
  have h00 := hx 0 _ (by have := Zame L 0 0 (by omega) (by omega); simpa [Nd.cells, Line.cells] using this)
  have h2 := World.cell?_spot h00;have h3 : ad.add 0 = ad := by simp [Addr.add]
  rwa [h3] at h2
 obtain ⟨b, o, sp⟩ := ad;obtain rfl : sp = none := hs;rw [Zae] at h0 h1 h2 h3;exact ⟨b, o, e, hb, Zae _ _ _, h0, h1, h2, h3⟩
theorem Zagx (A : Option Addr) (c : Nat) (L : List Nd) (pu pw : Nat) (u : Int) (s : ByteArray) (w : World) (hR : Rd w 4 A L.length (nds L)) (hL : L.length ≤ 1000000) (hu : w.cell? ⟨pu, 0, none⟩ = some (.int .i64 u)) (hs : w.cell? ⟨pw, 0, none⟩ = some (.string s)) :
 Calls prog 167 #[.slice A L.length c, .func (.func 134) #[] #[.pointer (some ⟨pu, 0, none⟩), .pointer (some ⟨pw, 0, none⟩)]] w fun e w' => e = .returned (.int .i64 (Zbk (Zafr u s) 0 L)) ∧ Below w.heap.size w w' := by
 have hul := Lib.lt_of_cell hu;have hsl := Lib.lt_of_cell hs;simp only at hul hsl;have HF := Zhd (fun W (hb : Below w.heap.size w W) (n : Nd) => Zaiv n pu pw u s W ((hb.cell (p := ⟨pu, 0, none⟩) hul).trans hu) ((hb.cell (p := ⟨pw, 0, none⟩) hsl).trans hs))
 have HR := Zhd hR;obtain ⟨f, hf⟩ : ∃ f, Zafr u s = f := ⟨_, rfl⟩;rw [hf] at HF ⊢;have HQ0 : Hid (Zbk f 0 L = Zbk f 0 (L.drop 0)) := rfl;clear hR hu hs hul hsl hf;go_enter func167, ntmps167;go_wp2;go_loopw [8] (fun vi wr => ∃ k : Nat, k ≤ L.length ∧ vi = .int .i64 k ∧ Hid (Zbk f 0 L = Zbk f k (L.drop k)) ∧ Hid (Below w.heap.size w wr)) (fun vi _ => L.length - (intOf vi).toNat)
 case atStart => exact ⟨0, Yav _, rfl, HQ0, Yac _ _⟩
 case round =>
  clear HQ0;obtain ⟨k, hk, rfl, HQ, HB⟩ := hrel;by_cases hlt : k < L.length
  · obtain ⟨b, o, rfl, hab, hadd, x0, x1, x2, x3⟩ := (HR.out.below HB.out).nd hlt;have HC := Zhd (HF.out wr HB.out L[k]);have hst : Hid (Zbk f 0 L = if f L[k] then (k : Int) else Zbk f (k + 1) (L.drop (k + 1))) := HQ.out.trans (Zadr hlt)
    generalize L[k] = r at *;unfold Nd.agg at HC;clear HQ;cases hf : f r with
    | true =>
      rw [hf] at hst HC;have HK : Hid (Zbk f 0 L = (k : Int)) := by show _ = _; rw [hst.out]; rfl
      clear hst hf;go_wp2_with fail;refine HC.out.mono ?_;rintro e w2 ⟨rfl, hb2⟩;have HB2 := Zhd (Zaa HB.out hb2);clear HC HB hb2 x0 x1 x2 x3;go_wp2;go_ret;exact ⟨Zcg HK.out.symm, HB2.out⟩
    | false =>
      rw [hf] at hst HC;have HK : Hid (Zbk f 0 L = Zbk f (k + 1) (L.drop (k + 1))) := by show _ = _; rw [hst.out]; rfl
      clear hst hf;go_wp2_with fail;refine HC.out.mono ?_;rintro e w2 ⟨rfl, hb2⟩;have HB2 := Zhd (Zaa HB.out hb2);clear HC HB hb2 x0 x1 x2 x3;go_wp2_with fail;go_roundw
      case rel => exact ⟨k + 1, by omega, by go_num, HK, HB2⟩
      case measure => simp [intOf]; omega
  · have hke : k = L.length := by omega
    have HK : Hid (Zbk f 0 L = -1) := by
     show _ = _;rw [HQ.out, Ybd (by omega)]; rfl
    clear HQ;go_wp2;go_ret;exact ⟨Zcg HK.out.symm, HB.out⟩
theorem Zuj (A : Option Addr) (c : Nat) (L : List Nd) (pu pw : Nat) (u : Int) (s : ByteArray) (w : World) (hR : Rd w 4 A L.length (nds L)) (hL : L.length ≤ 1000000) (hu : w.cell? ⟨pu, 0, none⟩ = some (.int .i64 u)) (hs : w.cell? ⟨pw, 0, none⟩ = some (.string s)) :
 Calls prog 133 #[.slice A L.length c, .func (.func 134) #[] #[.pointer (some ⟨pu, 0, none⟩), .pointer (some ⟨pw, 0, none⟩)]] w fun e w' => e = .returned (.bool (Zub L u s)) ∧ Below w.heap.size w w' := by
 have HI := Zhd (Zagx A c L pu pw u s w hR hL hu hs);have HX : Hid (decide (0 ≤ Zbk (Zafr u s) 0 L) = Zub L u s) := Zzf _ _ _;clear hR hu hs;generalize Zbk (Zafr u s) 0 L = z at *;go_enter func133, ntmps133;go_wp2_with fail;refine HI.out.mono ?_;rintro e w2 ⟨rfl, hb2⟩;go_wp2;go_ret;exact ⟨by rw [← HX.out]; rfl, hb2⟩
theorem Zlr (w : World) (n : Nat) (o : Obj) : (w.drewN n).alloc o = (w.alloc o).drewN n := rfl
theorem Zis (w : World) (n : Nat) (a : Addr) (v : Value) : (w.drewN n).setCell a v = (w.setCell a v).drewN n := rfl
attribute [local go_sem] Zlr Zis
theorem Zhq (W : World) (T1 T2 : TypeId) (a b : Value) (n : Nat) :
 Hid ((((W.alloc (.cells #[a] T1)).alloc (.cells #[b] T2)).drewN n).heap[W.heap.size]? = some (.cells #[a] T1 (0, 0))) ∧ Hid ((((W.alloc (.cells #[a] T1)).alloc (.cells #[b] T2)).drewN n).heap[W.heap.size + 1]? = some (.cells #[b] T2 (0, 0))) ∧
 Hid (Below W.heap.size W (((W.alloc (.cells #[a] T1)).alloc (.cells #[b] T2)).drewN n)) := by
 refine ⟨?_, ?_, Zam (((Yac _ _).alloc (Yaf _) _).alloc (by simp) _) n⟩
 · show ((W.alloc (.cells #[a] T1)).alloc (.cells #[b] T2)).heap[W.heap.size]? = _;rw [Below.heap_alloc _ _ _ (by simp)]
   exact heap_alloc_new W _
 · have := heap_alloc_new (W.alloc (.cells #[a] T1)) (.cells #[b] T2)
   rwa [show (W.alloc (.cells #[a] T1)).heap.size = W.heap.size + 1 by simp] at this
theorem Zck {w : World} {B : Nat} {e : TypeId} {k n : Nat} {v : Value} {xs : List Value} (h : w.ownsRow B e k v (n + 1) xs) : ∃ q c, v = .slice (some ⟨q, 0, none⟩) (n + 1) c := by
 rcases h.2 with ⟨-, h0⟩ | ⟨q, c, _, h1, -⟩
 · omega
 · exact ⟨q, c, h1⟩
theorem Zaqq {B g : Nat} {en : Int} {p : Pst} {Al : Option Addr} {cl : Nat} {vn vo : Value} {W w7 : World} {n : Nd} {v : Value} (h : Psr B g en p Al cl vn vo W) (hown : w7.ownsRow B 164 4 v (p.nodes.length + 1) (nds p.nodes ++ n.cells)) (hb : Below B W w7) (hk : Zbl 164 W w7) :
 Psr B g en ⟨p.l, p.nodes ++ [n], p.opn⟩ Al cl v vo (w7.setCell ⟨g, 2, none⟩ v) := by
 obtain ⟨k1, k2, k3, k4, k5, k6, k7⟩ := h;have ho : w7.ownsRow B 164 4 v (p.nodes ++ [n]).length (nds (p.nodes ++ [n])) := by
  rw [Zafs, Zava, Yaj]; exact hown
 have hg := hk g _ _ (by decide) k1
 exact ⟨Znf hg _, k2, k3, k4, (k5.below hb).below ((Yac _ _).setCell (p := ⟨g, 2, none⟩) k2 _), Zjp ho hg (by decide) _, Zjp (hk.own (by decide) k7) hg (by decide) _⟩
theorem Zor {B : Nat} {w : World} (h : B ≤ w.heap.size) (o : Obj) : Below B w (w.alloc o) := (Yac _ _).alloc h o
theorem Zaie {w : World} {g : Nat} {T : TypeId} {v : Value} (h : w.heap[g]? = some (.cells #[v] T (0, 0))) : w.cell? ⟨g, 0, none⟩ = some v := by
 rw [cell_of_row w g 0 _ _ (0, 0) h]; rfl
theorem Zyf {e : TypeId} {a V b : World} (h : Zbl e V b) (hb : Below a.heap.size a V) : Zbl e a b := (Zbl.of hb).trans h
theorem Zakr (mark : Int) {p : Pst} {t : Tok} {r : List Tok} (hl : p.l = t :: r) : nameB mark p = if 16 ≤ p.opn.length then (6, p)
 else if Zub p.nodes (topB p.opn) t.word = true then (4, p)
 else if 200 ≤ p.nodes.length then (5, p)
 else (0, ⟨r, p.nodes ++ [⟨⟨p.opn.length, t.word, mark⟩, topB p.opn⟩], p.opn⟩) := by
 unfold nameB;rw [hl]
theorem Zaig : (prog.info? 164).map (fun i => (i.zero, i.size, i.bytes)) = some (some (.agg #[.int .i64 0, .string ⟨#[]⟩, .int .i64 0, .int .i64 0]), 4, 40) := by kernel_rfl
theorem Zasj (e : Nd) : ∀ u ∈ e.cells, u.oneCell' = true := by
 intro u hu;simp only [Nd.cells, Line.cells, Ybm, Yaw, Ybv, or_false] at hu;rcases hu with (rfl | rfl | rfl) | rfl <;> rfl
theorem Zakq (w : World) (T : TypeId) (x : Nd) : Rd (w.alloc (.cells #[.int .i64 x.line.depth, .string x.line.word, .int .i64 x.line.mark, .int .i64 x.up] T)) 4 (some ⟨w.heap.size, 0, none⟩) 1 x.cells := by
 refine ⟨rfl, fun _ => ⟨_, rfl, by simp, fun j u hu => ?_⟩⟩
 rw [Zae, Ybf, World.cell?_alloc_at _ _ _ _ rfl];have : x.cells = [.int .i64 x.line.depth, .string x.line.word, .int .i64 x.line.mark, .int .i64 x.up] := rfl;rw [this] at hu;simpa using hu
def Zaaq (B g : Nat) (en mark : Int) (p : Pst) (vo : Value) (W : World) (e : Ending) (w' : World) : Prop :=
 e = .returned (.int .i64 (nameB mark p).1) ∧ (∃ Al cl vn, Psr B g en (nameB mark p).2 Al cl vn vo w') ∧ Below B W w'
theorem Zajb (B g : Nat) (en mark : Int) (p : Pst) (Al : Option Addr) (cl : Nat) (vn vo : Value) (W : World) (h : Psr B g en p Al cl vn vo W) (hBW : B ≤ W.heap.size) (t : Tok) (r : List Tok) (hl : p.l = t :: r) (hn : p.nodes.length ≤ 200) :
 Calls prog 100 #[.pointer (some ⟨g, 0, none⟩), .int .i64 mark] W (Zaaq B g en mark p vo W) := by
 have HP := Zhd h;have HT := Zhd (fun W' (hb : Below W.heap.size W W') => Zatg B g en p Al cl vn vo W' (h.below hb hBW))
 obtain ⟨c0, -, -, -⟩ := h.cells;obtain ⟨b, o, rfl, hbB, -, -, x2, -⟩ := h.head hl;have hpos : (0 : Int) < (p.l.length : Int) := by rw [hl]; simp
 have hgl := h.lt;have hbl : b < W.heap.size := by omega
 have HC0 := Zhd (fun W' (hb : Below W.heap.size W W') => (hb.cell (p := ⟨g, 0, none⟩) hgl).trans c0)
 have HC2 := Zhd (fun W' (hb : Below W.heap.size W W') => (hb.cell (p := ⟨b, o + 2, none⟩) hbl).trans x2)
 clear h;unfold Zaaq;go_enter func100, ntmps100;go_upto_region 1 with fail
 go_cut [5, 6] (fun v5 v6 wx => ∃ pw pu : Nat, v5 = .pointer (some ⟨pw, 0, none⟩) ∧ v6 = .pointer (some ⟨pu, 0, none⟩) ∧ Hid (wx.heap[pw]? = some (.cells #[.string t.word] 9 (0, 0))) ∧ Hid (wx.heap[pu]? = some (.cells #[.int .i64 (topB p.opn)] 3 (0, 0))) ∧ Hid (Below W.heap.size W wx))
 case first =>
  go_region_held3 (fun w' => w'.cell? ⟨g, 0, none⟩ = some (.slice (some ⟨b, o, none⟩) p.l.length cl) ∧ w'.cell? ⟨b, o + 2, none⟩ = some (.string t.word)) (go_keep) ((go_at_call 132; refine (HT.out _ ?hbt).mono ?_; (case hbt => repeat (first | exact Yac _ _ | refine Below.drew ?_ | refine Zam ?_ _ | refine Below.alloc ?_ (by simp) _)); rintro e w5 ⟨rfl, nq, rfl⟩))
  all_goals go_wp2_with fail
  all_goals go_meet
  all_goals first | exact ⟨W.heap.size, W.heap.size + 1, rfl, rfl, (Zhq _ _ _ _ _ _).1, (Zhq _ _ _ _ _ _).2.1, (Zhq _ _ _ _ _ _).2.2⟩ | exact ⟨W.heap.size + 1, W.heap.size, rfl, rfl, (Zhq _ _ _ _ _ _).2.1, (Zhq _ _ _ _ _ _).1, (Zhq _ _ _ _ _ _).2.2⟩
 case rest =>
  obtain ⟨pw, pu, rfl, rfl, HW, HU, HB⟩ := hcut;have hw := Zaie HW.out;have hu := Zaie HU.out;have hp := HP.out.below HB.out hBW;clear HT HC0 HC2 HP c0 x2 hgl hbl;obtain ⟨⟨An, cn, rfl⟩, Ao, co, rfl⟩ := hp.slices;obtain ⟨c0, -, c2, c3⟩ := hp.cells;have HPc := Zhd hp;have HX := Zhd (Zakr mark hl);clear hp;by_cases h16 : 16 ≤ p.opn.length
  · have HK : Hid (nameB mark p = (6, p)) := by show _ = _; rw [HX.out, Yan h16]
    have g1 : (16 : Int) ≤ (p.opn.length : Int) := by omega
    clear HX h16;go_wp2;go_ret;rw [HK.out];exact ⟨rfl, ⟨_, _, _, HPc.out⟩, HB.out.mono hBW⟩
  · have g1 : ¬ (16 : Int) ≤ (p.opn.length : Int) := by omega
    have HRn := Zhd (Rd.of_own HPc.out.2.2.2.2.2.1);have HC := Zhd (Zuj An cn p.nodes pu pw (topB p.opn) t.word wc HRn.out (by omega) hu hw)
    have hBc : B ≤ wc.heap.size := Yas hBW HB.out.size;have hwl := Lib.lt_of_cell hw;have hul := Lib.lt_of_cell hu;simp only at hwl hul;have H16 := Zhd h16;clear h16 HRn;cases htw : Zub p.nodes (topB p.opn) t.word with
    | true =>
      have HK : Hid (nameB mark p = (4, p)) := by show _ = _; rw [HX.out, Yab H16.out, Yan htw]
      rw [htw] at HC;clear HX htw;go_wp2_with fail;refine HC.out.mono ?_;rintro e w6 ⟨rfl, hb6⟩;have HP6 := Zhd (HPc.out.below hb6 hBc);have HB6 := Zhd ((Zaa HB.out hb6).mono hBW);clear hb6 c0 c2 c3 hw hu;go_wp2;go_ret;rw [HK.out];exact ⟨rfl, ⟨_, _, _, HP6.out⟩, HB6.out⟩
    | false =>
      have HTw := Zhd htw;rw [htw] at HC;clear htw;go_wp2_with fail;refine HC.out.mono ?_;rintro e w6 ⟨rfl, hb6⟩;have hp6 := HPc.out.below hb6 hBc;have HB6 := Zhd ((Zaa HB.out hb6).mono hBW);have hw6 := (hb6.cell (p := ⟨pw, 0, none⟩) hwl).trans hw;have hu6 := (hb6.cell (p := ⟨pu, 0, none⟩) hul).trans hu;have hB6 : B ≤ w6.heap.size := Yas hBc hb6.size;have HW6 := Zhd ((hb6.block pw hwl).trans HW.out);have HU6 := Zhd ((hb6.block pu hul).trans HU.out);clear hb6 c0 c2 c3 hw hu HPc HC HB hwl hul hBc HW HU;obtain ⟨c0, -, c2, c3⟩ := hp6.cells;have f2 := hp6.frozen 2;have HP6 := Zhd hp6;clear hp6;by_cases h200 : 200 ≤ p.nodes.length
      · have HK : Hid (nameB mark p = (5, p)) := by show _ = _; rw [HX.out, Yab H16.out, Yab (by rw [HTw.out]; simp), Yan h200]
        have g2 : (200 : Int) ≤ (p.nodes.length : Int) := by omega
        clear HX h200;go_wp2;go_ret;rw [HK.out];exact ⟨rfl, ⟨_, _, _, HP6.out⟩, HB6.out⟩
      · have HK : Hid (nameB mark p = (0, ⟨r, p.nodes ++ [⟨⟨p.opn.length, t.word, mark⟩, topB p.opn⟩], p.opn⟩)) := by show _ = _; rw [HX.out, Yab H16.out, Yab (by rw [HTw.out]; simp), Yab h200]
        have g2 : ¬ (200 : Int) ≤ (p.nodes.length : Int) := by omega
        clear HX h200;obtain ⟨i0, hi, hz0, hz1, hz2⟩ := info_parts Zaig;have hon := HP6.out.2.2.2.2.2.1;have HON := Zhd hon;have hnl : p.nodes.length + 1 ≤ 1000000000 := by omega
        clear hon;have hgl6 := HP6.out.lt;have hne1 : ¬ pw = g := fun e => by
         have h1 := HW6.out;rw [e, HP6.out.1] at h1;injection h1 with h1
         injection h1 with _ h2
         exact absurd h2 (by decide)
        have hne2 : ¬ pu = g := fun e => by
         have h1 := HU6.out;rw [e, HP6.out.1] at h1;injection h1 with h1
         injection h1 with _ h2
         exact absurd h2 (by decide)
        have hne3 : ¬ g = pw := fun e => hne1 e.symm
        have hne4 : ¬ g = pu := fun e => hne2 e.symm
        go_upto_region 8 with fail
        go_cut [] (fun wx => Hid (∃ v, Psr B g en ⟨p.l, p.nodes ++ [⟨⟨p.opn.length, t.word, mark⟩, topB p.opn⟩], p.opn⟩ (some ⟨b, o, none⟩) cl v (.slice Ao p.opn.length co) wx) ∧ Hid (Below B W wx))
        case first =>
         go_region_law ((refine Zke rfl _ _ 118 rfl B _ 164 i0 _ 4 40 underlying118 hi hz0 hz1 hz2 rfl (by decide) (by decide) ((Zah HON.out (Zam (Yac _ _) _)).alloc _) (by simp; omega) (by rfl) (some ⟨w6.heap.size, 0, none⟩) 1 1 (Nd.cells ⟨⟨p.opn.length, t.word, mark⟩, topB p.opn⟩) rfl (Zakq _ _ _) (fun h => by cases h) (Zasj _) hnl ?_; intro v7 w7 hown7 hb7 hk7; obtain ⟨q7, cc7, rfl⟩ := Zck hown7; have HB7 : Hid (Below B w6 w7) := Below.trans (by repeat (first | exact Yac _ _ | refine Below.drew ?_ | refine Zam ?_ _ | exact Zor hB6 _)) hb7; have K7 : Hid (Zbl 164 w6 w7) := Zyf hk7 (by repeat (first | exact Yac _ _ | refine Below.drew ?_ | refine Zam ?_ _ | refine Below.alloc ?_ (by simp) _)); have HG7 := Zhd (K7.out g _ _ (by decide) HP6.out.1); have f7 := Lib.frozen_of_heap HG7.out 2; have c27 : w7.cell? ⟨g, 2, none⟩ = some (.slice An p.nodes.length cn) := (cell_of_row w7 g 2 _ _ (0, 0) HG7.out).trans rfl))
         all_goals go_wp2_with fail
         all_goals go_meet
         all_goals exact ⟨⟨_, Zaqq HP6.out hown7 HB7.out K7.out⟩, (HB6.out.trans HB7.out).setCell (p := ⟨g, 2, none⟩) HP6.out.2.1 _⟩
        case rest =>
         obtain ⟨HN, HBw⟩ := hcut;obtain ⟨vn2, hN⟩ := HN.out;obtain ⟨c0o, -, -, -⟩ := hN.cells;have f0' := hN.frozen 0;obtain ⟨b3, o3, e3, hc1, hrc, HP1, HP2⟩ := hN.pop hl;obtain ⟨rfl, rfl⟩ : b = b3 ∧ o = o3 := by cases e3; exact ⟨rfl, rfl⟩
         have hb2 := Zku HBw.out hN;have hlen : p.l.length = r.length + 1 := by rw [hl]; rfl
         have c0n : wc.cell? ⟨g, 0, none⟩ = some (.slice (some ⟨b, o, none⟩) (r.length + 1) cl) := by rw [← hlen]; exact c0o
         clear c0o hN HN HON HP6 c0 c2 c3 hw6 hu6 hl hlen;by_cases h1 : cl = 1
         · obtain ⟨hr, hp3⟩ := HP1 h1;subst hr;have HP3 := Zhd hp3;have HB3 := Zhd (hb2 (.slice (some ⟨b, o, none⟩) 0 0));have c0e : wc.cell? ⟨g, 0, none⟩ = some (.slice (some ⟨b, o, none⟩) 1 cl) := c0n;clear c0n;subst h1;clear HP1 HP2 hb2 hp3;go_wp2;go_ret;rw [HK.out];exact ⟨rfl, ⟨_, _, _, HP3.out⟩, HB3.out⟩
         · have HP3 := Zhd (HP2 h1);have HB3 := Zhd (hb2 (.slice (some ⟨b, o + 4, none⟩) r.length (cl - 1)));have h1' : ¬ (1 = cl) := fun e => h1 e.symm
           have hci : (1 : Int) ≤ (cl : Int) := by omega
           have hcs : (cl : Int) - 1 = ((cl - 1 : Nat) : Int) := by omega
           have hpos2 : (0 : Int) < (r.length : Int) + 1 := by omega
           clear HP1 HP2 hb2;go_wp2;go_ret;rw [HK.out];exact ⟨rfl, ⟨_, _, _, HP3.out⟩, HB3.out⟩
end Go.Proofs.Zq
namespace Prs
open Go Go.Lib Tre Lx
theorem Zqo {en : Int} {p : Pst} (h : (Zca en p.l).1 = 3) (h0 : p.opn.length = 0) : stB en p = ((Zca en p.l).2, 2, p) := by unfold stB; rw [Yan h, Yan h0]
theorem Zul {en : Int} {p : Pst} (h : (Zca en p.l).1 = 3) (h0 : p.opn.length ≠ 0) : stB en p = (0, 0, ⟨p.l.drop 1, p.nodes, p.opn.take (p.opn.length - 1)⟩) := by unfold stB; rw [Yan h, Yab h0]
theorem Zaau {en : Int} {p : Pst} (h : (Zca en p.l).1 ≠ 3) : stB en p = Zot en p := by unfold stB; rw [Yab h]
theorem Zwm {en : Int} {p : Pst} {mk : Int} {l1 : List Tok} (hm : Zce 0 p.l = (mk, false, l1)) : Zot en p = ((Zca en l1).2, 2, ⟨l1, p.nodes, p.opn⟩) := by
 unfold Zot;simp only [hm];rw [Yan trivial]
theorem Zrt {en : Int} {p : Pst} {mk : Int} {l1 : List Tok} (hm : Zce 0 p.l = (mk, true, l1)) (h : (nameB mk ⟨l1, p.nodes, p.opn⟩).1 ≠ 0) : Zot en p = ((Zca en l1).2, (nameB mk ⟨l1, p.nodes, p.opn⟩).1, ⟨l1, p.nodes, p.opn⟩) := by
 unfold Zot;simp only [hm];rw [Yab (by simp), Yan h]
theorem Zvj {en : Int} {p : Pst} {mk : Int} {l1 : List Tok} (hm : Zce 0 p.l = (mk, true, l1)) (h : (nameB mk ⟨l1, p.nodes, p.opn⟩).1 = 0) : Zot en p = Zwd en (nameB mk ⟨l1, p.nodes, p.opn⟩).2 := by
 unfold Zot;simp only [hm];rw [Yab (by simp), Yab (by simp [h])]
theorem Zty {en : Int} {p : Pst} (h : (Zca en p.l).1 = 2) : Zwd en p = (0, 0, ⟨p.l.drop 1, p.nodes, p.opn ++ [p.nodes.length - 1]⟩) := by unfold Zwd; rw [Yan h]
theorem Zaak {en : Int} {p : Pst} (h : (Zca en p.l).1 = 4) : Zwd en p = (0, 0, ⟨p.l.drop 1, p.nodes, p.opn⟩) := by unfold Zwd; rw [Yab (by omega), Yan h]
theorem Zaae {en : Int} {p : Pst} (h : (Zca en p.l).1 ≠ 2) (h4 : (Zca en p.l).1 ≠ 4) : Zwd en p = ((Zca en p.l).2, 2, p) := by unfold Zwd; rw [Yab h, Yab h4]
theorem Zpq : ∀ (l : List Tok) (b mk : Int) (l1 : List Tok), Zce b l = (mk, true, l1) → ∃ t r, l1 = t :: r
 | [], b, mk, l1, h => by unfold Zce at h; injection h with _ h; injection h with h; cases h
 | t :: r, b, mk, l1, h => by
   unfold Zce at h;split at h
   · split at h
     · injection h with _ h; injection h with h; cases h
     · exact Zpq r _ mk l1 h
   · injection h with _ h
     injection h with _ h
     exact ⟨t, r, h.symm⟩
theorem Zapd {mk : Int} {p : Pst} (h : (nameB mk p).1 ≠ 0) : (nameB mk p).2 = p := by
 unfold nameB at h ⊢;split
 · rfl
 · rename_i t r hl;rw [hl] at h;simp only at h ⊢;split
   · rfl
   · split
     · rfl
     · split
       · rfl
       · rename_i h1 h2 h3;rw [Yab h1, Yab h2, Yab h3] at h;exact absurd rfl h
theorem Zavw {mk : Int} {p : Pst} {t : Tok} {r : List Tok} (hl : p.l = t :: r) (h : (nameB mk p).1 = 0) : ∃ n, (nameB mk p).2 = ⟨r, p.nodes ++ [n], p.opn⟩ ∧ p.nodes.length < 200 ∧ p.opn.length < 16 := by
 unfold nameB at h ⊢;rw [hl] at h ⊢;simp only at h ⊢;split
 · rename_i h1; rw [Yan h1] at h; cases h
 · rename_i h1;rw [Yab h1] at h;split
   · rename_i h2; rw [Yan h2] at h; cases h
   · rename_i h2;rw [Yab h2] at h;split
     · rename_i h3; rw [Yan h3] at h; cases h
     · exact ⟨_, rfl, by omega, by omega⟩
theorem Zqq {en : Int} {l : List Tok} (h : (Zca en l).1 ≠ 0) : ∃ t r, l = t :: r := by
 cases l with
 | nil => exact absurd rfl h
 | cons t r => exact ⟨t, r, rfl⟩
end Prs
namespace Go.Proofs.Zq
open Tryz
open Go Go.RowKit Go.Sort Tre Lx Prs
theorem Zaei (w : World) (g i j : Nat) (u v : Value) (h : i ≠ j) : (w.setCell ⟨g, i, none⟩ u).setCell ⟨g, j, none⟩ v = (w.setCell ⟨g, j, none⟩ v).setCell ⟨g, i, none⟩ u := by
 unfold World.setCell;simp only;congr 1;apply Array.ext_getElem?;intro b;simp only [Ydc];by_cases hb : g = b
 · simp only [hb, if_true, Option.map_map];congr 1;funext o;cases o with
   | cells c e f =>
     simp only [Function.comp, Option.isSome_none, Ydu, if_false];congr 1;apply Array.ext_getElem?;intro k;simp only [Ycq, Array.size_setIfInBounds];by_cases hi : i = k <;> by_cases hj : j = k <;> simp [hi, hj] <;> omega
   | _ => rfl
 · simp only [Yab hb]
theorem Zrr : (prog.info? 3).map (fun i => (i.zero, i.size, i.bytes)) = some (some (.int .i64 0), 1, 8) := by kernel_rfl
theorem Zafd (w : World) (T : TypeId) (x : Int) : Rd (w.alloc (.cells #[.int .i64 x] T)) 1 (some ⟨w.heap.size, 0, none⟩) 1 [.int .i64 x] := by
 refine ⟨rfl, fun _ => ⟨_, rfl, by simp, fun j u hu => ?_⟩⟩
 rw [Zae, Ybf, World.cell?_alloc_at _ _ _ _ rfl];simpa using hu
theorem Zapj {B g : Nat} {en : Int} {p : Pst} {Al : Option Addr} {cl : Nat} {vn vo : Value} {w6 : World} (h : Psr B g en p Al cl vn vo w6) {k : Nat} {v : Value} {w7 : World} (hown : w7.ownsRow B 3 1 v (p.opn.length + 1) (iv p.opn ++ [.int .i64 (k : Int)])) (hb : Below B w6 w7) (hk : Zbl 3 w6 w7) :
 Psr B g en ⟨p.l, p.nodes, p.opn ++ [k]⟩ Al cl vn v (w7.setCell ⟨g, 3, none⟩ v) := by
 obtain ⟨k1, k2, k3, k4, k5, k6, k7⟩ := h;have ho : w7.ownsRow B 3 1 v (p.opn ++ [k]).length (iv (p.opn ++ [k])) := by
  rw [show iv (p.opn ++ [k]) = iv p.opn ++ [.int .i64 (k : Int)] by unfold iv; simp, Yaj]; exact hown
 have hg := hk g _ _ (by decide) k1
 exact ⟨Znf hg _, k2, k3, k4, (k5.below hb).below ((Yac _ _).setCell (p := ⟨g, 3, none⟩) k2 _), Zjp (hk.own (by decide) k6) hg (by decide) _, Zjp ho hg (by decide) _⟩
def Ztu (B g : Nat) (en : Int) (p : Pst) (W : World) (e : Ending) (w' : World) : Prop :=
 e = .returned (.tuple #[.int .i64 (stB en p).1, .int .i64 (stB en p).2.1]) ∧ Zwo B g en (stB en p).2.2 w' ∧ Below B W w'
theorem Zanu (B g : Nat) (en : Int) (p : Pst) (Al : Option Addr) (cl : Nat) (vn vo : Value) (W : World) (h : Psr B g en p Al cl vn vo W) (hk : (Zca en p.l).1 = 3) :
 Calls prog 59 #[.pointer (some ⟨g, 0, none⟩)] W (Ztu B g en p W) := by
 obtain ⟨t, r, hl⟩ := Zqq (en := en) (l := p.l) (by omega)
 have HN := Zhd (Zpj B g en p Al cl vn vo W h);have HP := Zhd h;unfold Ztu;by_cases h0 : p.opn.length = 0
 · have HX : Hid (stB en p = ((Zca en p.l).2, 2, p)) := Zqo hk h0;rw [hk] at HN;obtain ⟨-, Ao, co, rfl⟩ := h.slices;obtain ⟨-, -, -, c3⟩ := h.cells;rw [h0] at c3;clear h hk h0 hl;generalize (Zca en p.l).2 = at1 at *;go_enter func59, ntmps59;go_wp2_with fail;refine HN.out.mono ?_;rintro e w1 ⟨rfl, n1, rfl⟩;go_wp2;go_ret2;rw [HX.out];exact ⟨rfl, ⟨_, _, _, _, HP.out.drewN n1⟩, Zam (Yac _ _) n1⟩
 · have HX : Hid (stB en p = (0, 0, ⟨r, p.nodes, p.opn.take (p.opn.length - 1)⟩)) := by show _ = _; rw [Zul hk h0, hl]; rfl
   rw [hk] at HN;have hop : 0 < p.opn.length := by omega
   obtain ⟨q, co, rfl, hc1, hc2, -⟩ := h.lastO hop;have hsh := Zahp (w := W) h.2.2.2.2.2.2 (m := p.opn.length - 1) (by omega) hop
   have hlt : ((iv p.opn).take ((p.opn.length - 1) * 1)) = iv (p.opn.take (p.opn.length - 1)) := by rw [Nat.mul_one]; unfold iv; rw [List.map_take]
   rw [hlt] at hsh;have hol : (p.opn.take (p.opn.length - 1)).length = p.opn.length - 1 := by rw [Yad]; omega
   have hso := h.setO (o := p.opn.take (p.opn.length - 1)) (v := .slice (some ⟨q, 0, none⟩) (p.opn.length - 1) co) (by rw [hol]; exact hsh)
   obtain ⟨b, o, rfl, hcl, hrc, HP1, HP2⟩ := hso.pop (t := t) (r := r) hl;obtain ⟨c0, -, -, c3⟩ := h.cells;have f0 := h.frozen 0;have f3 := h.frozen 3;have hlen : p.l.length = r.length + 1 := by rw [hl]; rfl
   rw [hlen] at c0;have hBg := h.2.1;obtain ⟨m, hm⟩ : ∃ m, p.opn.length = m + 1 := ⟨p.opn.length - 1, by omega⟩
   rw [hm] at c3;simp only [hm, Yea] at HP1 HP2 HX;have hmc : (m : Int) ≤ (co : Int) := by omega
   have hm0 : (0 : Int) ≤ (m : Int) := by omega
   unfold maxLen at hc2;have hm63 : (m : Int) + 1 ≤ 9223372036854775807 := by omega
   have hne0 : ((m + 1 : Nat) : Int) ≠ 0 := by omega
   have hne1 : (((m : Int) + 1) == 0) = false := by rw [Yak]; omega
   have hpos2 : (0 : Int) < (r.length : Int) + 1 := by omega
   have h1r : (1 : Int) ≤ (r.length : Int) + 1 := by omega
   have hr1 : (1 : Int) ≤ (cl : Int) := by omega
   clear h hso hsh hlt hol hk h0 hl hlen hm hop hne0;generalize (Zca en p.l).2 = at1 at *;by_cases h1 : cl = 1
   · obtain ⟨hr, hp3⟩ := HP1 h1;subst hr;have HP3 := Zhd hp3;clear HP1 HP2 hp3;have c0 : W.cell? ⟨g, 0, none⟩ = some (.slice (some ⟨b, o, none⟩) 1 cl) := c0;subst h1;go_enter func59, ntmps59;go_wp2_with fail;refine HN.out.mono ?_;rintro e w1 ⟨rfl, n1, rfl⟩;go_upto_region 5 with fail
     go_cut [] (fun wx => Hid (Zwo B g en ⟨[], p.nodes, p.opn.take m⟩ wx) ∧ Hid (Below B W wx))
     case first =>
      go_region
      all_goals go_wp2_with fail
      all_goals go_meet
      all_goals have hbe := (Zam (Yac B W) (n1 + 1)).setCell (p := ⟨g, 3, none⟩) hBg (.slice (some ⟨q, 0, none⟩) m co)
      all_goals first | exact ⟨⟨_, _, _, _, HP3.out⟩, hbe.setCell (p := ⟨g, 0, none⟩) hBg _⟩ | (rw [Zaei _ g 0 3 _ _ (by decide)]; exact ⟨⟨_, _, _, _, HP3.out⟩, hbe.setCell (p := ⟨g, 0, none⟩) hBg _⟩)
     case rest =>
      obtain ⟨HN2, HB2⟩ := hcut;go_wp2;go_ret2;rw [HX.out];exact ⟨rfl, HN2.out, HB2.out⟩
   · have HP3 := Zhd (HP2 h1);have h1' : ¬ (1 = cl) := fun e => h1 e.symm
     have hcs : (cl : Int) - 1 = ((cl - 1 : Nat) : Int) := by omega
     clear HP1 HP2;go_enter func59, ntmps59;go_wp2_with fail;refine HN.out.mono ?_;rintro e w1 ⟨rfl, n1, rfl⟩;go_upto_region 5 with fail
     go_cut [] (fun wx => Hid (Zwo B g en ⟨r, p.nodes, p.opn.take m⟩ wx) ∧ Hid (Below B W wx))
     case first =>
      go_region
      all_goals go_wp2_with fail
      all_goals go_meet
      all_goals have hbe := (Zam (Yac B W) (n1 + 1)).setCell (p := ⟨g, 3, none⟩) hBg (.slice (some ⟨q, 0, none⟩) m co)
      all_goals first | exact ⟨⟨_, _, _, _, HP3.out⟩, hbe.setCell (p := ⟨g, 0, none⟩) hBg _⟩ | (rw [Zaei _ g 0 3 _ _ (by decide)]; exact ⟨⟨_, _, _, _, HP3.out⟩, hbe.setCell (p := ⟨g, 0, none⟩) hBg _⟩)
     case rest =>
      obtain ⟨HN2, HB2⟩ := hcut;go_wp2;go_ret2;rw [HX.out];exact ⟨rfl, HN2.out, HB2.out⟩
theorem Zaru (B g : Nat) (en : Int) (p : Pst) (Al : Option Addr) (cl : Nat) (vn vo : Value) (W : World) (h : Psr B g en p Al cl vn vo W) (hBW : B ≤ W.heap.size) (hn : p.nodes.length ≤ 200) (hk : (Zca en p.l).1 ≠ 3) :
 Calls prog 59 #[.pointer (some ⟨g, 0, none⟩)] W (Ztu B g en p W) := by
 have HL := Zhd (Zaau hk);have HN := Zhd (Zpj B g en p Al cl vn vo W h);have HM := Zhd (fun n => Zakj B g en p Al cl vn vo (W.drewN n) (h.drewN n))
 have q1 : ((Zca en p.l).1 == 3) = false := Yak.2 hk;obtain ⟨mk, ok, l1, hm⟩ : ∃ mk ok l1, Zce 0 p.l = (mk, ok, l1) := ⟨_, _, _, rfl⟩;unfold Zvn at HM;simp only [hm] at HM;obtain ⟨k0, a0, h0⟩ : ∃ k a, Zca en p.l = (k, a) := ⟨_, _, rfl⟩;simp only [h0] at HN q1;unfold Ztu;clear h hk h0;go_enter func59, ntmps59;go_wp2_with fail;refine HN.out.mono ?_;rintro e w1 ⟨rfl, n1, rfl⟩;have HM1 := Zhd (HM.out n1);clear HN HM;go_wp2_with fail;refine HM1.out.mono ?_;rintro e w2 ⟨rfl, ⟨A2, c2, hp2⟩, hb2⟩;have HB2 := Zhd (Below.trans (Zam (Yac B W) n1) hb2);have HP2 := Zhd hp2;have HN2 := Zhd (Zpj B g en _ A2 c2 vn vo w2 hp2);clear hp2 hb2 HM1;go_wp2_with fail;refine HN2.out.mono ?_;rintro e w3 ⟨rfl, n3, rfl⟩;clear HN2;cases ok with
 | false =>
   have HK : Hid (stB en p = ((Zca en l1).2, 2, ⟨l1, p.nodes, p.opn⟩)) := by show _ = _; rw [HL.out, Zwm hm]
   clear HL hm;go_wp2;go_ret2;rw [HK.out];exact ⟨rfl, ⟨_, _, _, _, HP2.out.drewN n3⟩, Zam HB2.out n3⟩
 | true =>
   obtain ⟨t1, r1, hl1⟩ := Zpq _ _ _ _ hm;have HA := Zhd (Zajb B g en mk ⟨l1, p.nodes, p.opn⟩ A2 c2 vn vo (w2.drewN n3) (HP2.out.drewN n3) (Yas hBW HB2.out.size) t1 r1 hl1 hn);have HL1 := Zhd hl1;clear hl1;unfold Zaaq at HA;go_wp2_with fail;refine HA.out.mono ?_;rintro e w4 ⟨rfl, ⟨A4, c4, vn4, hp4⟩, hb4⟩;have HB4 := Zhd (HB2.out.trans ((Zam (Yac B w2) n3).trans hb4));clear HA hb4 HP2 HB2;by_cases hz : (nameB mk ⟨l1, p.nodes, p.opn⟩).1 = 0
   · obtain ⟨n4, e4, hn4, ho4⟩ := Zavw (t := t1) (r := r1) HL1.out hz;rw [e4] at hp4;have HE : Hid (stB en p = Zwd en ⟨r1, p.nodes ++ [n4], p.opn⟩) := by show _ = _; rw [HL.out, Zvj hm hz, e4]
     rw [hz];have hsz4 : B ≤ w4.heap.size := Yas hBW HB4.out.size;obtain ⟨k4, a4, hk4⟩ : ∃ k a, Zca en r1 = (k, a) := ⟨_, _, rfl⟩;have HN4 := Zhd (Zpj B g en _ A4 c4 vn4 vo w4 hp4);simp only [hk4] at HN4;have HP4 := Zhd hp4;have HK4 := Zhd hk4;clear hp4 HL hm hz e4 HL1 hn hBW hk4;simp only at hn4 ho4;go_wp2_with fail;refine HN4.out.mono ?_;rintro e w5 ⟨rfl, n5, hw5⟩;have hb5 : Below w4.heap.size w4 w5 := by rw [hw5]; exact Zam (Yac _ _) n5
     have HP5 := Zhd (HP4.out.below hb5 hsz4);have HB5 := Zhd (HB4.out.trans (hb5.mono hsz4));have hB5 : B ≤ w5.heap.size := Yas hsz4 hb5.size;clear hw5 hb5 HN4 HP4 HB4 hsz4;by_cases h2 : k4 = 2
     · have q2 : (k4 == 2) = true := beq_iff_eq.2 h2;obtain ⟨t4, r4, hl4⟩ := Zqq (en := en) (l := r1) (by rw [HK4.out]; change k4 ≠ 0; omega)
       have HK : Hid (stB en p = (0, 0, ⟨r4, p.nodes ++ [n4], p.opn ++ [p.nodes.length]⟩)) := by
        show _ = _;rw [HE.out, Zty (by change (Zca en r1).1 = 2; rw [HK4.out]; exact h2)]
        simp [hl4]
       clear HE HK4 h2;obtain ⟨i0, hi, hz0, hz1, hz2⟩ := info_parts Zrr;obtain ⟨⟨An, cn, rfl⟩, Ao, co, rfl⟩ := HP5.out.slices;have HON := Zhd HP5.out.2.2.2.2.2.2;have hnl : p.opn.length + 1 ≤ 1000000000 := by omega
       obtain ⟨-, -, c2, c3⟩ := HP5.out.cells;have c2n : w5.cell? ⟨g, 2, none⟩ = some (.slice An (p.nodes.length + 1) cn) := by simpa using c2
       have f3 := HP5.out.frozen 3;have hnr : (p.nodes.length : Int) + 1 ≤ 9223372036854775807 := by omega
       have hwr : IntKind.i64.wrap (p.nodes.length : Int) = p.nodes.length := IntWalk.i64_in _ (by omega)
       have hgl5 := HP5.out.lt;clear c2;go_upto_region 18 with fail
       go_region_law ((refine Zke rfl _ _ 119 rfl B _ 3 i0 _ 1 8 underlying119 hi hz0 hz1 hz2 rfl (by decide) (by decide) ((Zah HON.out (by repeat (first | exact Yac _ _ | refine Below.drew ?_ | refine Zam ?_ _))).alloc _) (by simp; omega) (by rfl) (some ⟨w5.heap.size, 0, none⟩) 1 1 [.int .i64 (p.nodes.length : Int)] rfl (Zafd w5 3 (p.nodes.length : Int)) (fun h => by cases h) (by intro u hu; simp only [Yaw, Ybv, or_false] at hu; subst hu; rfl) hnl ?_; intro v7 w7 hown7 hb7 hk7; obtain ⟨q7, cc7, rfl⟩ := Zck hown7; have HB7 : Hid (Below B w5 w7) := Below.trans (by repeat (first | exact Yac _ _ | refine Below.drew ?_ | refine Zam ?_ _ | exact Zor hB5 _)) hb7; have K7 : Hid (Zbl 3 w5 w7) := Zyf hk7 (by repeat (first | exact Yac _ _ | refine Below.drew ?_ | refine Zam ?_ _ | refine Below.alloc ?_ (by simp) _)); have HG7 := Zhd (K7.out g _ _ (by decide) HP5.out.1); have f7 := Lib.frozen_of_heap HG7.out 3; have c37 : w7.cell? ⟨g, 3, none⟩ = some (.slice Ao p.opn.length co) := (cell_of_row w7 g 3 _ _ (0, 0) HG7.out).trans rfl))
       all_goals
        have HP8 := Zhd (Zapj HP5.out hown7 HB7.out K7.out);have HB8 := Zhd ((HB5.out.trans HB7.out).setCell (p := ⟨g, 3, none⟩) HP5.out.2.1 (.slice (some ⟨q7, 0, none⟩) (p.opn.length + 1) cc7));generalize World.setCell w7 _ _ = w8 at HP8 HB8 ⊢;clear HON HP5 HB5 c2n c3 f3 hown7 hb7 hk7 HB7 K7 HG7 f7 c37 hgl5;obtain ⟨b, o, rfl, hc1, hrc, HP1, HP2⟩ := HP8.out.pop hl4;obtain ⟨c0, -, -, -⟩ := HP8.out.cells;have f0 := HP8.out.frozen 0;have hb2 := Zku HB8.out HP8.out;have hlen : r1.length = r4.length + 1 := by rw [hl4]; rfl
        have c0n : w8.cell? ⟨g, 0, none⟩ = some (.slice (some ⟨b, o, none⟩) (r4.length + 1) c4) := by rw [← hlen]; exact c0
        clear c0 HP8 HB8;by_cases h1 : c4 = 1
        · obtain ⟨hr, hp3⟩ := HP1 h1;subst hr;have HP3 := Zhd hp3;have HB3 := Zhd (hb2 (.slice (some ⟨b, o, none⟩) 0 0));have c0e : w8.cell? ⟨g, 0, none⟩ = some (.slice (some ⟨b, o, none⟩) 1 c4) := c0n;clear c0n;subst h1;clear HP1 HP2 hb2 hp3 hlen hl4;go_wp2;go_ret2;rw [HK.out];exact ⟨rfl, ⟨_, _, _, _, HP3.out⟩, HB3.out⟩
        · have HP3 := Zhd (HP2 h1);have HB3 := Zhd (hb2 (.slice (some ⟨b, o + 4, none⟩) r4.length (c4 - 1)));have h1' : ¬ (1 = c4) := fun e => h1 e.symm
          have hci : (1 : Int) ≤ (c4 : Int) := by omega
          have hcs : (c4 : Int) - 1 = ((c4 - 1 : Nat) : Int) := by omega
          have hpos2 : (0 : Int) < (r4.length : Int) + 1 := by omega
          clear HP1 HP2 hb2 hlen hl4;go_wp2;go_ret2;rw [HK.out];exact ⟨rfl, ⟨_, _, _, _, HP3.out⟩, HB3.out⟩
     · have q2 : (k4 == 2) = false := Yak.2 h2;by_cases h4 : k4 = 4
       · have q4 : (k4 == 4) = true := beq_iff_eq.2 h4;obtain ⟨t4, r4, hl4⟩ := Zqq (en := en) (l := r1) (by rw [HK4.out]; change k4 ≠ 0; omega)
         have HK : Hid (stB en p = (0, 0, ⟨r4, p.nodes ++ [n4], p.opn⟩)) := by
          show _ = _;rw [HE.out, Zaak (by change (Zca en r1).1 = 4; rw [HK4.out]; exact h4)]
          simp [hl4]
         clear HE HK4 h2 h4;obtain ⟨b, o, rfl, hc1, hrc, HP1, HP2⟩ := HP5.out.pop hl4;obtain ⟨c0, -, -, -⟩ := HP5.out.cells;have f0 := HP5.out.frozen 0;have hb2 := Zku HB5.out HP5.out;have hlen : r1.length = r4.length + 1 := by rw [hl4]; rfl
         have c0n : w5.cell? ⟨g, 0, none⟩ = some (.slice (some ⟨b, o, none⟩) (r4.length + 1) c4) := by rw [← hlen]; exact c0
         clear c0 HP5 HB5;by_cases h1 : c4 = 1
         · obtain ⟨hr, hp3⟩ := HP1 h1;subst hr;have HP3 := Zhd hp3;have HB3 := Zhd (hb2 (.slice (some ⟨b, o, none⟩) 0 0));have c0e : w5.cell? ⟨g, 0, none⟩ = some (.slice (some ⟨b, o, none⟩) 1 c4) := c0n;clear c0n;subst h1;clear HP1 HP2 hb2 hp3 hlen hl4;go_wp2;go_ret2;rw [HK.out];exact ⟨rfl, ⟨_, _, _, _, HP3.out⟩, HB3.out⟩
         · have HP3 := Zhd (HP2 h1);have HB3 := Zhd (hb2 (.slice (some ⟨b, o + 4, none⟩) r4.length (c4 - 1)));have h1' : ¬ (1 = c4) := fun e => h1 e.symm
           have hci : (1 : Int) ≤ (c4 : Int) := by omega
           have hcs : (c4 : Int) - 1 = ((c4 - 1 : Nat) : Int) := by omega
           have hpos2 : (0 : Int) < (r4.length : Int) + 1 := by omega
           clear HP1 HP2 hb2 hlen hl4;go_wp2;go_ret2;rw [HK.out];exact ⟨rfl, ⟨_, _, _, _, HP3.out⟩, HB3.out⟩
       · have q4 : (k4 == 4) = false := Yak.2 h4;have HK : Hid (stB en p = (a4, 2, ⟨r1, p.nodes ++ [n4], p.opn⟩)) := by
          show _ = _;rw [HE.out, Zaae (by change (Zca en r1).1 ≠ 2; rw [HK4.out]; exact h2) (by change (Zca en r1).1 ≠ 4; rw [HK4.out]; exact h4)]
          change ((Zca en r1).2, _) = _;rw [HK4.out]
         clear HE HK4 h2 h4;go_wp2;go_ret2;rw [HK.out];exact ⟨rfl, ⟨_, _, _, _, HP5.out⟩, HB5.out⟩
   · have HK : Hid (stB en p = ((Zca en l1).2, (nameB mk ⟨l1, p.nodes, p.opn⟩).1, ⟨l1, p.nodes, p.opn⟩)) := by show _ = _; rw [HL.out, Zrt hm hz]
     have qz : ((nameB mk ⟨l1, p.nodes, p.opn⟩).1 != 0) = true := by rw [bne_iff_ne]; exact hz
     rw [Zapd hz] at hp4;have HP4 := Zhd hp4;clear hp4 HL hm hz;generalize (nameB mk ⟨l1, p.nodes, p.opn⟩).1 = z4 at *;go_wp2;go_ret2;rw [HK.out];exact ⟨rfl, ⟨_, _, _, _, HP4.out⟩, HB4.out⟩
theorem Zuv (B g : Nat) (en : Int) (p : Pst) (W : World) (h : Zwo B g en p W) (hBW : B ≤ W.heap.size) (hn : p.nodes.length ≤ 200) :
 Calls prog 59 #[.pointer (some ⟨g, 0, none⟩)] W (Ztu B g en p W) := by
 obtain ⟨Al, cl, vn, vo, h⟩ := h;by_cases hk : (Zca en p.l).1 = 3
 · exact Zanu B g en p Al cl vn vo W h hk
 · exact Zaru B g en p Al cl vn vo W h hBW hn hk
end Go.Proofs.Zq
