import Derived.Test.YtdamidelojccaaaGreatDoorJ20
set_option maxHeartbeats 4000000
set_option maxRecDepth 100000
namespace Prs
open Go Go.Lib Go.Sort Go.Proofs Tre Lx
def goB (en : Int) : Nat → Pst → Int × Int × Pst
 | 0, p => (0, 0, p)
 | k + 1, p => if p.l = [] then (0, 0, p) else if (stB en p).2.1 ≠ 0 then stB en p else goB en k (stB en p).2.2
structure Good (p : Pst) : Prop where
 len : p.nodes.length ≤ 200
 ups : Zvr p.nodes
 ap : Zpe p.nodes
 opn : ∀ k ∈ p.opn, k < p.nodes.length
theorem good_nil (l : List Tok) : Good ⟨l, [], []⟩ := ⟨Yav _, fun _ h => absurd h (Yeq _), fun _ _ h => absurd h (Yeq _), fun _ h => by cases h⟩
theorem Zya : ∀ (l : List Tok) (b mk : Int) (ok : Bool) (l1 : List Tok), Zce b l = (mk, ok, l1) → l1.length ≤ l.length
 | [], b, mk, ok, l1, h => by
   unfold Zce at h;injection h with _ h; injection h with _ h
   rw [← h]; exact Yaf _
 | t :: r, b, mk, ok, l1, h => by
   unfold Zce at h;split at h
   · split at h
     · injection h with _ h; injection h with _ h
       rw [← h]; exact Yaf _
     · have := Zya r _ mk ok l1 h;simp; omega
   · injection h with _ h; injection h with _ h
     rw [← h]; exact Yaf _
theorem Zadb {mk : Int} {p : Pst} {t : Tok} {r : List Tok} (hl : p.l = t :: r) (h : (nameB mk p).1 = 0) :
 (nameB mk p).2 = ⟨r, p.nodes ++ [⟨⟨p.opn.length, t.word, mk⟩, topB p.opn⟩], p.opn⟩ ∧ p.nodes.length < 200 ∧ p.opn.length < 16 ∧ Zub p.nodes (topB p.opn) t.word = false := by
 unfold nameB at h ⊢;rw [hl] at h ⊢;simp only at h ⊢;split
 · rename_i h1; rw [Yan h1] at h; cases h
 · rename_i h1;rw [Yab h1] at h;split
   · rename_i h2; rw [Yan h2] at h; cases h
   · rename_i h2;rw [Yab h2] at h;split
     · rename_i h3; rw [Yan h3] at h; cases h
     · exact ⟨rfl, by omega, by omega, by simpa using h2⟩
theorem Zcz {N : List Nd} {n : Nd} {i : Nat} (h : i < N.length) : Zax (N ++ [n]) i = Zax N i := by
 rw [Zez (by simp; omega), Zez h, Ydv h]
theorem Zfv {N : List Nd} {n : Nd} : Zax (N ++ [n]) N.length = n := by
 rw [Zez (by simp)]; simp
theorem Zaxl {o : List Nat} {m : Nat} (h : ∀ k ∈ o, k < m) : topB o < m := by
 unfold topB;cases hg : o.getLast? with
 | none => simp only; omega
 | some k =>
   have := h k (List.mem_of_getLast? hg);simp only; omega
theorem Zadk {N : List Nd} {u : Int} {s : ByteArray} (h : Zub N u s = false) {i : Nat} (hi : i < N.length) (hu : (Zax N i).up = u) (hs : (Zax N i).line.word = s) : False := by
 unfold Zub at h;rw [List.any_eq_false] at h;have := h (Zax N i) (by rw [Zez hi]; exact Yat hi)
 simp [hu, hs] at this
theorem Zyv {l r : List Tok} {N : List Nd} {o : List Nat} (h : Good ⟨l, N, o⟩) {d mk : Int} {s : ByteArray} (hn : N.length < 200) (ht : Zub N (topB o) s = false) :
 Good ⟨r, N ++ [⟨⟨d, s, mk⟩, topB o⟩], o⟩ := by
 obtain ⟨h1, h2, h3, h4⟩ := h;simp only at h1 h2 h3 h4;refine ⟨by simp; omega, fun i hi => ?_, fun i j hi hj hu hs => ?_, fun k hk => ?_⟩
 · rw [Yaj] at hi;simp only [Ybi, Ydx] at hi;rcases Ybp i N.length with hl | hl
   · rw [Zcz hl]; exact h2 i hl
   · obtain rfl : i = N.length := by omega
     rw [Zfv];exact Zaxl h4
 · rw [Yaj] at hi hj;simp only [Ybi, Ydx] at hi hj;rcases Ybp i N.length with hl | hl
   · rcases Ybp j N.length with hk | hk
     · rw [Zcz hl, Zcz hk] at hu hs;exact h3 i j hl hk hu hs
     · obtain rfl : j = N.length := by omega
       rw [Zcz hl, Zfv] at hu hs;exact (Zadk ht hl hu hs).elim
   · obtain rfl : i = N.length := by omega
     rcases Ybp j N.length with hk | hk
     · rw [Zcz hk, Zfv] at hu hs;exact (Zadk ht hk hu.symm hs.symm).elim
     · omega
 · have := h4 k hk;rw [Yaj]; simp; omega
theorem Zuu {en : Int} {p : Pst} (h : Good p) (hne : p.l ≠ []) (he : (stB en p).2.1 = 0) : Good (stB en p).2.2 ∧ (stB en p).2.2.l.length < p.l.length := by
 have hpos : 0 < p.l.length := Ycx.2 hne;by_cases hk : (Zca en p.l).1 = 3
 · by_cases h0 : p.opn.length = 0
   · rw [Zqo hk h0] at he; cases he
   · rw [Zul hk h0];refine ⟨⟨h.len, h.ups, h.ap, fun k hk => h.opn k (List.mem_of_mem_take hk)⟩, ?_⟩
     simp only [Yam]; omega
 · rw [Zaau hk] at he ⊢;obtain ⟨mk, ok, l1, hm⟩ : ∃ mk ok l1, Zce 0 p.l = (mk, ok, l1) := ⟨_, _, _, rfl⟩;have hl1 := Zya _ _ _ _ _ hm;cases ok with
   | false => rw [Zwm hm] at he; cases he
   | true =>
     by_cases hz : (nameB mk ⟨l1, p.nodes, p.opn⟩).1 = 0
     · rw [Zvj hm hz] at he ⊢;obtain ⟨t1, r1, e1⟩ := Zpq _ _ _ _ hm;obtain ⟨e4, hn, -, ht⟩ := Zadb (p := ⟨l1, p.nodes, p.opn⟩) e1 hz;rw [e4] at he ⊢;have hg : Good ⟨p.l, p.nodes, p.opn⟩ := h;have hr : r1.length < p.l.length := by rw [e1] at hl1; simp at hl1; omega
       by_cases h2 : (Zca en r1).1 = 2
       · rw [Zty h2];have g := Zyv (r := r1.drop 1) (d := (p.opn.length : Nat)) (mk := mk) hg hn ht;refine ⟨⟨g.len, g.ups, g.ap, fun k hk => ?_⟩, by simp only [Yam]; omega⟩
         rcases Ybm.1 hk with hk | hk
         · exact g.opn k hk
         · simp at hk;simp; omega
       · by_cases h4 : (Zca en r1).1 = 4
         · rw [Zaak h4];exact ⟨Zyv (r := r1.drop 1) hg hn ht, by simp only [Yam]; omega⟩
         · rw [Zaae h2 h4] at he; cases he
     · rw [Zrt hm hz] at he;exact absurd he hz
theorem Zacx {en : Int} : ∀ {k m : Nat} {p : Pst}, Good p → p.l.length ≤ k → p.l.length ≤ m → goB en k p = goB en m p
 | 0, m, p, _, h1, _ => by
   have hl : p.l = [] := Yaq (by omega)
   cases m with
   | zero => rfl
   | succ m => unfold goB; rw [Yan hl]
 | k + 1, 0, p, _, _, h2 => by
   have hl : p.l = [] := Yaq (by omega)
   unfold goB; rw [Yan hl]
 | k + 1, m + 1, p, hg, h1, h2 => by
   unfold goB;by_cases hl : p.l = []
   · rw [Yan hl, Yan hl]
   · rw [Yab hl, Yab hl];by_cases he : (stB en p).2.1 = 0
     · obtain ⟨g1, g2⟩ := Zuu hg hl he;rw [Yab (by simp [he]), Yab (by simp [he])]
       exact Zacx g1 (by omega) (by omega)
     · rw [Yan he, Yan he]
theorem Zaum (en : Int) (k : Nat) {p : Pst} (h : p.l = []) : goB en k p = (0, 0, p) := by
 cases k with
 | zero => rfl
 | succ k => unfold goB; rw [Yan h]
theorem Zaup {en : Int} {p : Pst} (hne : p.l ≠ []) (he : (stB en p).2.1 ≠ 0) : goB en p.l.length p = stB en p := by
 obtain ⟨m, hm⟩ : ∃ m, p.l.length = m + 1 := ⟨p.l.length - 1, by have := Ycx.2 hne; omega⟩
 rw [hm];unfold goB; rw [Yab hne, Yan he]
theorem Zapl {en : Int} {p : Pst} (hg : Good p) (hne : p.l ≠ []) (he : (stB en p).2.1 = 0) : goB en p.l.length p = goB en (stB en p).2.2.l.length (stB en p).2.2 := by
 obtain ⟨g1, g2⟩ := Zuu hg hne he;obtain ⟨m, hm⟩ : ∃ m, p.l.length = m + 1 := ⟨p.l.length - 1, by have := Ycx.2 hne; omega⟩
 rw [hm]
 conv => lhs; unfold goB
 rw [Yab hne, Yab (by simp [he])]
 exact Zacx g1 (by omega) (Yaf _)
def Zlg (s : ByteArray) : List Line × Int × Int :=
 let a := allB s.data.toList
 if a.2.2 ≠ 0 then ([], (a.2.1 : Nat), a.2.2)
 else
  let r := goB s.size a.1.length ⟨a.1, [], []⟩
  if r.2.1 ≠ 0 then ([], r.1, r.2.1)
  else if r.2.2.opn.length ≠ 0 then ([], (s.size : Nat), 2)
  else (Zmi r.2.2.nodes.length r.2.2.nodes (-1), 0, 0)
end Prs
namespace Go.Proofs.Zq
open Tryz
open Go Go.RowKit Go.Sort Tre Lx Prs
theorem Zto (N : List Nd) (hN : Zpe N) (hup : Zvr N) (hl2 : N.length ≤ 200) : ∀ (k : Nat) (u : Int), (N.length : Int) ≤ u + 1 + k → ∀ (A : Option Addr) (c : Nat) (W : World), Rd W 4 A N.length (nds N) →
 Calls prog 60 #[.slice A N.length c, .int .i64 u] W (Zcc W (Zmi k N u))
 | 0, u, hk, A, c, W, hR => by
   have h0 := Zaqs hup (u := u) (by omega)
   have h := Zry N u hN hl2 A c W hR (fun _ => []) (fun i hi => by rw [h0] at hi; cases hi) (fun j => by rw [h0]; simp) (fun i hi => by simp)
   rw [h0] at h;exact h
 | k + 1, u, hk, A, c, W, hR => by
   have h := Zry N u hN hl2 A c W hR (fun i => Zmi k N (i : Nat)) (fun i hi W' hb => Zto N hN hup hl2 k i (by have := Zok hup hi; omega) A c W' (hR.below hb))
    (fun j => Yas (Zsq hup k u j) hl2) (fun i _ => Yas (Zrm hup k _) hl2)
   exact h
theorem Zwo.len {B g : Nat} {en : Int} {p : Pst} {W : World} (h : Zwo B g en p W) : Zamz g W = p.l.length := by
 obtain ⟨_, _, _, _, h⟩ := h;exact h.len
def Zakz (s : ByteArray) (w : World) (e : Ending) (w' : World) : Prop :=
 (∃ v, e = .returned (.tuple #[v, .int .i64 (Zlg s).2.1, .int .i64 (Zlg s).2.2]) ∧ w'.ownsRow w.heap.size 62 3 v (Zlg s).1.length (lines (Zlg s).1)) ∧ Below w.heap.size w w'
theorem Zapx (s : ByteArray) (w : World) (hE : Env w) (hs : s.size ≤ 1000000) :
 Calls prog 30 #[.string s] w (Zakz s w) := by
 have HA := Zhd (Zapm s w hE hs);unfold Zajr at HA;obtain ⟨a, ha⟩ : ∃ a, allB s.data.toList = a := ⟨_, rfl⟩;rw [ha] at HA;obtain ⟨R, hR⟩ : ∃ R, Zlg s = R := ⟨_, rfl⟩
 have HT : Hid (R = if a.2.2 ≠ 0 then ([], (a.2.1 : Int), a.2.2) else
  if (goB s.size a.1.length ⟨a.1, [], []⟩).2.1 ≠ 0 then ([], (goB s.size a.1.length ⟨a.1, [], []⟩).1, (goB s.size a.1.length ⟨a.1, [], []⟩).2.1)
  else if (goB s.size a.1.length ⟨a.1, [], []⟩).2.2.opn.length ≠ 0 then ([], (s.size : Int), 2)
  else (Zmi (goB s.size a.1.length ⟨a.1, [], []⟩).2.2.nodes.length (goB s.size a.1.length ⟨a.1, [], []⟩).2.2.nodes (-1), 0, 0)) := by
  show _ = _;rw [← hR];unfold Zlg;simp only [ha]
 obtain ⟨ts, at_, er⟩ := a;simp only at HT HA;unfold Zakz;rw [hR];clear hE ha hR;go_enter func30, ntmps30;go_wp2_with fail;refine HA.out.mono ?_;rintro e w2 ⟨⟨v, rfl, ho⟩, hb2⟩;obtain ⟨Al, cl, rfl, hc1, hc2, hrd, -, -⟩ := Zct ho;have HB2 := Zhd hb2;clear HA ho hb2;by_cases he : er = 0
 · subst he;have qe : ((0 : Int) != 0) = false := rfl;obtain ⟨w3, hw3⟩ : ∃ w3, w2.alloc (.cells #[.slice Al ts.length cl, .int .i64 (s.size : Int), .slice none 0 0, .slice none 0 0] 121) = w3 := ⟨_, rfl⟩;have hb3 : Below w2.heap.size w2 w3 := by rw [← hw3]; exact (Yac _ _).alloc (Yaf _) _
   have hz3 : w2.heap.size ≤ w3.heap.size := hb3.size
   have HP3 : Hid (Zwo w2.heap.size w2.heap.size s.size ⟨ts, [], []⟩ w3) :=
    ⟨Al, cl, .slice none 0 0, .slice none 0 0, by rw [← hw3]; exact heap_alloc_new w2 _, Yaf _, hc1, hc2, (RdB.of hrd).below hb3, World.ownsRow_nil _ _ _ _, World.ownsRow_nil _ _ _ _⟩
   have HB3 := Zhd hb3;obtain ⟨G, hG⟩ : ∃ G, goB s.size ts.length ⟨ts, [], []⟩ = G := ⟨_, rfl⟩;rw [hG] at HT;have HG0 := Zhd hG;clear hb3 hc1 hc2 hrd hG;go_wp2;go_loopw [] (fun wr => ∃ p : Pst, Hid (Zwo w2.heap.size w2.heap.size s.size p wr) ∧ Hid (Prs.Good p) ∧ Hid (goB s.size p.l.length p = G) ∧ Hid (Below w2.heap.size w2 wr)) (fun wr => Zamz w2.heap.size wr)
   case atStart => exact ⟨_, HP3, Prs.good_nil _, HG0, HB3⟩
   case round =>
    clear HP3 HG0 HB3;obtain ⟨p, HP, HG, HQ, HB⟩ := hrel;have HBw : Hid (Below w.heap.size w wr) := Zaa HB2.out HB.out;have hBs : w2.heap.size ≤ wr.heap.size := HB.out.size;by_cases hl : p.l = []
    · have HK : Hid (G = (0, 0, p)) := by show _ = _; rw [← HQ.out, Zaum _ _ hl]
      obtain ⟨Al', cl', vn, vo, hp⟩ := HP.out;obtain ⟨⟨An, cn, rfl⟩, Ao, co, rfl⟩ := hp.slices;obtain ⟨c0, -, c2, c3⟩ := hp.cells;rw [show p.l.length = 0 by rw [hl]; rfl] at c0
      have HRn := Zhd (Rd.of_own hp.2.2.2.2.2.1);by_cases ho : p.opn.length = 0
      · have HK2 : Hid (R = (Zmi p.nodes.length p.nodes (-1), 0, 0)) := by show _ = _; rw [HT.out, HK.out]; simp [ho]
        rw [ho] at c3;have HS := Zhd (Zto p.nodes HG.out.ap HG.out.ups HG.out.len p.nodes.length (-1) (by omega) An cn wr HRn.out)
        unfold Zcc at HS;clear hl ho hp HP HG HQ HB HT HK HRn;go_wp2_with fail;refine HS.out.mono ?_;rintro e w7 ⟨⟨v7, rfl, ho7⟩, hb7⟩;have HO7 := Zhd (Zkv ho7 HBw.out.size);have HB7 := Zhd (Zaa HBw.out hb7);clear HS ho7 hb7 c0 c2 c3;go_wp2;refine bodyPost_ret (v := .tuple #[v7, .int .i64 0, .int .i64 0]) (by simp [results, results30, go_sem]) rfl ⟨⟨_, by rw [HK2.out], ?_⟩, HB7.out⟩
        rw [HK2.out]; exact HO7.out
      · have HK2 : Hid (R = ([], (s.size : Int), 2)) := by show _ = _; rw [HT.out, HK.out]; simp [ho]
        have hop : (0 : Int) < (p.opn.length : Int) := by omega
        clear hl ho hp HP HG HQ HB HT HK HRn;go_wp2;refine bodyPost_ret (v := .tuple #[.slice none 0 0, .int .i64 (s.size : Int), .int .i64 2]) (by simp [results, results30, go_sem]) rfl ⟨⟨_, by rw [HK2.out], ?_⟩, HBw.out⟩
        rw [HK2.out]; exact World.ownsRow_nil _ _ _ _
    · have hpos : (0 : Int) < (p.l.length : Int) := by have := Ycx.2 hl; omega
      have HS := Zhd (Zuv w2.heap.size w2.heap.size s.size p wr HP.out hBs HG.out.len);unfold Ztu at HS;have HL := Zhd HP.out.len
      have c0 : ∃ Al' cl', wr.cell? ⟨w2.heap.size, 0, none⟩ = some (.slice Al' p.l.length cl') := by
       obtain ⟨Al', cl', vn, vo, hp⟩ := HP.out;exact ⟨Al', cl', hp.cells.1⟩
      obtain ⟨Al', cl', c0⟩ := c0;by_cases hes : (stB s.size p).2.1 = 0
      · have HN := Zhd (Zuu HG.out hl hes);have HQ2 : Hid (goB s.size (stB s.size p).2.2.l.length (stB s.size p).2.2 = G) := by show _ = _; rw [← HQ.out, Zapl HG.out hl hes]
        generalize stB s.size p = z at *;obtain ⟨z1, z2, z3⟩ := z;simp only at hes HN HQ2 HS;subst hes;clear HP HG HQ hl;go_wp2_with fail;refine HS.out.mono ?_;rintro e w7 ⟨rfl, hp7, hb7⟩;have HP7 := Zhd hp7;have HB7 := Zhd (HB.out.trans hb7);have HL7 := Zhd hp7.len;clear HS hp7 hb7 c0;go_wp2;go_roundw
        case rel => exact ⟨z3, HP7, HN.out.1, HQ2, HB7⟩
        case measure => rw [HL7.out, HL.out]; exact HN.out.2
      · have HK : Hid (G = stB s.size p) := by show _ = _; rw [← HQ.out, Zaup hl hes]
        have HK2 : Hid (R = ([], (stB s.size p).1, (stB s.size p).2.1)) := by show _ = _; rw [HT.out, HK.out]; simp [hes]
        have q2 : ((stB s.size p).2.1 != 0) = true := by rw [bne_iff_ne]; exact hes
        clear HT HK HQ;generalize stB s.size p = z at *;obtain ⟨z1, z2, z3⟩ := z;simp only at HK2 HS q2;clear HP HG hl hes;go_wp2_with fail;refine HS.out.mono ?_;rintro e w7 ⟨rfl, hp7, hb7⟩;have HB7 := Zhd (Zaa HB2.out (HB.out.trans hb7));clear HS hp7 hb7 c0;go_wp2;refine bodyPost_ret (v := .tuple #[.slice none 0 0, .int .i64 z1, .int .i64 z2]) (by simp [results, results30, go_sem]) rfl ⟨⟨_, by rw [HK2.out], ?_⟩, HB7.out⟩
        rw [HK2.out]; exact World.ownsRow_nil _ _ _ _
 · have HK : Hid (R = ([], (at_ : Int), er)) := by show _ = _; rw [HT.out, Yan he]
   have qe : (er != 0) = true := by rw [bne_iff_ne]; exact he
   clear HT he;go_wp2;refine bodyPost_ret (v := .tuple #[.slice none 0 0, .int .i64 (at_ : Int), .int .i64 er]) (by simp [results, results30, go_sem]) rfl ⟨⟨_, by rw [HK.out], ?_⟩, HB2.out⟩
   rw [HK.out]; exact World.ownsRow_nil _ _ _ _
end Go.Proofs.Zq
namespace Edt
open Go Go.Lib Tre
def Zgt (L : List Line) (P : List ByteArray) (n : Nat) : Bool := match Zar L (P.take (n + 1)) with | some k => bits .and .i64 (Zdq L k).mark 2 != 0 | none => false
def Zsf (L : List Line) (P : List ByteArray) : Bool := (List.range P.length).any (Zgt L P)
theorem Zane (L : List Line) (P : List ByteArray) : Zsf L P = (List.range' 0 P.length).any (Zgt L P) := by unfold Zsf; rw [List.range_eq_range']
theorem Zajt {L : List Line} {P : List ByteArray} {k : Nat} (h : k < P.length) : (List.range' k (P.length - k)).any (Zgt L P) = (Zgt L P k || (List.range' (k + 1) (P.length - (k + 1))).any (Zgt L P)) := by
 obtain ⟨m, hm⟩ : ∃ m, P.length - k = m + 1 := ⟨P.length - k - 1, by omega⟩
 rw [hm, List.range'_succ, List.any_cons, show P.length - (k + 1) = m by omega]
theorem Zanb {L : List Line} {P : List ByteArray} {k : Nat} (h : Zar L (P.take (k + 1)) = none) : Zgt L P k = false := by unfold Zgt; rw [h]
theorem Zand {L : List Line} {P : List ByteArray} {k j : Nat} (h : Zar L (P.take (k + 1)) = some j) (hj : j < L.length) : Zgt L P k = (bits .and .i64 L[j].mark 2 != 0) := by
 unfold Zgt; rw [h]; simp only; rw [Zdf hj]
end Edt
namespace Go.Proofs.Zq
open Tryz
open Go Go.RowKit Go.Sort Tre Lx Prs Edt
theorem Zwb (A : Option Addr) (cap : Nat) (L : List Line) (Ap : Option Addr) (cp : Nat) (P : List ByteArray) (w : World) (hR : Rd w 3 A L.length (lines L)) (hcap : L.length ≤ cap) (hc : cap ≤ maxLen) (hr : Zab L = true) (hP : Rd w 1 Ap P.length (sv P)) (hcp : P.length ≤ cp) (hc2 : cp ≤ maxLen) :
 Calls prog 50 #[.slice A L.length cap, .slice Ap P.length cp] w fun e w' => e = .returned (.bool (Zsf L P)) ∧ Below w.heap.size w w' := by
 have HF := Zhd (fun (n : Nat) (hn : n ≤ P.length) (W : World) (hb : Below w.heap.size w W) => Zbr A cap L Ap cp (P.take n) W (hR.below hb) hcap hc hr (by rw [Yad, Ybb hn]; exact Zfs (hP.below hb) hn) (by rw [Yad]; omega) hc2)
 have HR := Zhd hR;have HP := Zhd hP;have HK0 := Zhd (Zane L P);have h200 := Zas hr;unfold maxLen at hc2 hc;obtain ⟨z, hz⟩ : ∃ z, Zsf L P = z := ⟨_, rfl⟩;rw [hz] at HK0 ⊢;clear hR hP hr hz;go_enter func50, ntmps50;go_wp2;go_loopw [10] (fun vi wr => ∃ k : Nat, vi = .int .i64 k ∧ k ≤ P.length ∧ Hid (z = (List.range' k (P.length - k)).any (Zgt L P)) ∧ Hid (Below w.heap.size w wr)) (fun vi _ => P.length - (intOf vi).toNat)
 case atStart => exact ⟨0, rfl, Yav _, HK0, Yac _ _⟩
 case round =>
  clear HK0;obtain ⟨k, rfl, hk, HQ, HB⟩ := hrel;by_cases hlt : k < P.length
  · have HC := Zhd (HF.out (k + 1) hlt wr HB.out);have hlen : (P.take (k + 1)).length = k + 1 := by rw [Yad]; omega
    rw [hlen] at HC;have HS : Hid (z = (Zgt L P k || (List.range' (k + 1) (P.length - (k + 1))).any (Zgt L P))) := by show _ = _; rw [HQ.out, Zajt hlt]
    have hi1 : (k : Int) + 1 ≤ (cp : Int) := by omega
    have hi0 : (0 : Int) ≤ (k : Int) + 1 := by omega
    obtain ⟨ad, rfl, -, -⟩ := HP.out.2 (by omega)
    clear HQ hlen;cases hf : Zar L (P.take (k + 1)) with
    | none =>
      rw [hf] at HC;have HN : Hid (z = (List.range' (k + 1) (P.length - (k + 1))).any (Zgt L P)) := by show _ = _; rw [HS.out, Zanb hf]; rfl
      have HC2 : Hid (Calls prog 34 #[.slice A L.length cap, .slice (some ad) (k + 1) cp] wr fun e w' => e = .returned (.tuple #[.int .i64 0, .bool false]) ∧ Below wr.heap.size wr w') := HC.out
      clear HS hf HC;go_wp2_with fail;refine HC2.out.mono ?_;rintro e w2 ⟨rfl, hb2⟩;have HB2 := Zhd (Zaa HB.out hb2);clear HC2 hb2 HB;go_wp2;go_roundw
      case rel => exact ⟨k + 1, by go_num, by omega, HN, HB2⟩
      case measure => simp [intOf]; omega
    | some j =>
      rw [hf] at HC;have hj := Zcd hf;have HC2 : Hid (Calls prog 34 #[.slice A L.length cap, .slice (some ad) (k + 1) cp] wr fun e w' => e = .returned (.tuple #[.int .i64 (j : Int), .bool true]) ∧ Below wr.heap.size wr w') := HC.out
      have HS2 := Zhd (Zand hf hj);obtain ⟨B, O, rfl, hab, hadd, -, -, y2⟩ := HR.out.line hj;have hj1 : (j : Int) < (L.length : Int) := by omega
      have HY : Hid (∀ W, Below w.heap.size w W → W.cell? ⟨B, O + j * 3 + 2, none⟩ = some (.int .i64 L[j].mark)) := fun W hb => (hb.cell (p := ⟨B, O + j * 3 + 2, none⟩) hab).trans y2
      generalize L[j].mark = m at *;clear hf HC y2;cases hq : (bits .and .i64 m 2 != 0) with
      | true =>
        rw [hq] at HS2;have HN : Hid (z = true) := by show _ = _; rw [HS.out, HS2.out]; rfl
        clear HS HS2;go_wp2_with fail;refine HC2.out.mono ?_;rintro e w2 ⟨rfl, hb2⟩;have HB2 := Zhd (Zaa HB.out hb2);have y2 := HY.out w2 HB2.out;clear HC2 hb2 HB HY;go_wp2;go_ret;exact ⟨by rw [HN.out]; rfl, HB2.out⟩
      | false =>
        rw [hq] at HS2;have HN : Hid (z = (List.range' (k + 1) (P.length - (k + 1))).any (Zgt L P)) := by show _ = _; rw [HS.out, HS2.out]; rfl
        clear HS HS2;go_wp2_with fail;refine HC2.out.mono ?_;rintro e w2 ⟨rfl, hb2⟩;have HB2 := Zhd (Zaa HB.out hb2);have y2 := HY.out w2 HB2.out;clear HC2 hb2 HB HY;go_wp2;go_roundw
        case rel => exact ⟨k + 1, by go_num, by omega, HN, HB2⟩
        case measure => simp [intOf]; omega
  · have hke : k = P.length := by omega
    have HN : Hid (z = false) := by show _ = _; rw [HQ.out, hke, Yep]; rfl
    clear HQ;go_wp2;go_ret;exact ⟨by rw [HN.out]; rfl, HB.out⟩
end Go.Proofs.Zq
namespace Edt
open Go Go.Lib Tre
def Zos (L : List Line) (P : List ByteArray) : Bool := Zsf L P.dropLast
def Zss (L : List Line) (P : List ByteArray) : Int × Int × Int :=
 if P.length = 0 then (0, 0, 1) else match Zar L P with | none => (0, 0, 3) | some k => ((k : Int), (endB L k : Int), 0)
theorem Zmz {L : List Line} {P : List ByteArray} (h : P.length = 0) : Zss L P = (0, 0, 1) := by unfold Zss; rw [Yan h]
theorem Zjo {L : List Line} {P : List ByteArray} (h : P.length ≠ 0) (hf : Zar L P = none) : Zss L P = (0, 0, 3) := by unfold Zss; rw [Yab h, hf]
theorem Zjk {L : List Line} {P : List ByteArray} {k : Nat} (h : P.length ≠ 0) (hf : Zar L P = some k) : Zss L P = ((k : Int), (endB L k : Int), 0) := by unfold Zss; rw [Yab h, hf]
end Edt
namespace Go.Proofs.Zq
open Tryz
open Go Go.RowKit Go.Sort Tre Lx Prs Edt
theorem Zym (A : Option Addr) (cap : Nat) (L : List Line) (Ap : Option Addr) (cp : Nat) (P : List ByteArray) (w : World) (hR : Rd w 3 A L.length (lines L)) (hcap : L.length ≤ cap) (hc : cap ≤ maxLen) (hr : Zab L = true) (hP : Rd w 1 Ap P.length (sv P)) (hcp : P.length ≤ cp) (hc2 : cp ≤ maxLen) (h0 : P.length ≠ 0) :
 Calls prog 55 #[.slice A L.length cap, .slice Ap P.length cp] w fun e w' => e = .returned (.bool (Zos L P)) ∧ Below w.heap.size w w' := by
 obtain ⟨m, hm⟩ : ∃ m, P.length = m + 1 := ⟨P.length - 1, by omega⟩
 have hd : P.dropLast.length = m := by rw [Ycn]; omega
 have ht : P.dropLast = P.take m := by rw [Ydk, hm]; rfl
 have hKe := Zwb A cap L Ap cp P.dropLast w hR hcap hc hr (by rw [hd, ht]; exact Zfs hP (by omega)) (by omega) hc2
 rw [hd] at hKe;have HK := Zhd hKe;have hi1 : (m : Int) ≤ (cp : Int) := by omega
 have hi0 : (0 : Int) ≤ (m : Int) := by omega
 unfold maxLen at hc2;have hm63 : (m : Int) + 1 ≤ 9223372036854775807 := by omega
 have hmx : max (m : Int) 0 = m := Int.max_eq_left hi0;obtain ⟨ad, rfl, -, -⟩ := hP.2 (by omega)
 unfold Zos;generalize Zsf L P.dropLast = z at *;rw [hm];clear hKe hR hP hr hd ht hm hcp;go_enter func55, ntmps55;go_wp2_with fail;refine HK.out.mono ?_;rintro e w2 ⟨rfl, hb2⟩;go_wp2;go_ret;exact ⟨rfl, hb2⟩
theorem Zps (A : Option Addr) (cap : Nat) (L : List Line) (Ap : Option Addr) (cp : Nat) (P : List ByteArray) (w : World) (hR : Rd w 3 A L.length (lines L)) (hcap : L.length ≤ cap) (hc : cap ≤ maxLen) (hr : Zab L = true) (hP : Rd w 1 Ap P.length (sv P)) (hcp : P.length ≤ cp) (hc2 : cp ≤ maxLen) :
 Calls prog 51 #[.slice A L.length cap, .slice Ap P.length cp] w fun e w' => e = .returned (.tuple #[.int .i64 (Zss L P).1, .int .i64 (Zss L P).2.1, .int .i64 (Zss L P).2.2]) ∧ Below w.heap.size w w' := by
 have hRi := Zbe A cap L w hR hcap hc;rw [hr] at hRi;have HRi := Zhd hRi;have HF := Zhd (fun (W : World) (hb : Below w.heap.size w W) => Zbr A cap L Ap cp P W (hR.below hb) hcap hc hr (hP.below hb) hcp hc2)
 have HE := Zhd (fun (k : Nat) (hk : k < L.length) (W : World) (hb : Below w.heap.size w W) => Zyo A cap L k W (hR.below hb) hcap hc hr hk)
 obtain ⟨z, hz⟩ : ∃ z, Zss L P = z := ⟨_, rfl⟩;have HZ := Zhd hz;rw [hz];clear hR hr hP hz hRi;by_cases h0 : P.length = 0
 · have HK : Hid (z = (0, 0, 1)) := by show _ = _; rw [← HZ.out, Zmz h0]
   rw [h0];clear HZ HF HE h0 hcp;go_enter func51, ntmps51;go_wp2_with fail;refine HRi.out.mono ?_;rintro e w2 ⟨rfl, hb2⟩;go_wp2;refine bodyPost_ret (v := .tuple #[.int .i64 0, .int .i64 0, .int .i64 1]) (by simp [results, results51, go_sem]) rfl ⟨by rw [HK.out], hb2⟩
 · have hne : ((P.length : Int) == 0) = false := by rw [Yak]; omega
   cases hf : Zar L P with
   | none =>
     have HK : Hid (z = (0, 0, 3)) := by show _ = _; rw [← HZ.out, Zjo h0 hf]
     rw [hf] at HF;have HF2 : Hid (∀ W, Below w.heap.size w W → Calls prog 34 #[.slice A L.length cap, .slice Ap P.length cp] W fun e w' => e = .returned (.tuple #[.int .i64 0, .bool false]) ∧ Below W.heap.size W w') := HF.out
     clear HZ HF HE hf;go_enter func51, ntmps51;go_wp2_with fail;refine HRi.out.mono ?_;rintro e w2 ⟨rfl, hb2⟩;have HC := Zhd (HF2.out w2 hb2);have HB2 := Zhd hb2;clear hb2;go_wp2_with fail;refine HC.out.mono ?_;rintro e w3 ⟨rfl, hb3⟩;have HB3 := Zhd (Zaa HB2.out hb3);go_wp2;refine bodyPost_ret (v := .tuple #[.int .i64 0, .int .i64 0, .int .i64 3]) (by simp [results, results51, go_sem]) rfl ⟨by rw [HK.out], HB3.out⟩
   | some k =>
     have hk := Zcd hf;have HK : Hid (z = ((k : Int), (endB L k : Int), 0)) := by show _ = _; rw [← HZ.out, Zjk h0 hf]
     rw [hf] at HF;have HF2 : Hid (∀ W, Below w.heap.size w W → Calls prog 34 #[.slice A L.length cap, .slice Ap P.length cp] W fun e w' => e = .returned (.tuple #[.int .i64 (k : Int), .bool true]) ∧ Below W.heap.size W w') := HF.out
     have HE2 := Zhd (HE.out k hk);clear HZ HF HE hf;go_enter func51, ntmps51;go_wp2_with fail;refine HRi.out.mono ?_;rintro e w2 ⟨rfl, hb2⟩;have HC := Zhd (HF2.out w2 hb2);have HB2 := Zhd hb2;clear hb2;go_wp2_with fail;refine HC.out.mono ?_;rintro e w3 ⟨rfl, hb3⟩;have HB3 := Zhd (Zaa HB2.out hb3);have HD := Zhd (HE2.out w3 HB3.out);go_wp2_with fail;refine HD.out.mono ?_;rintro e w4 ⟨rfl, hb4⟩;have HB4 := Zhd (Zaa HB3.out hb4);go_wp2;refine bodyPost_ret (v := .tuple #[.int .i64 (k : Int), .int .i64 (endB L k : Int), .int .i64 0]) (by simp [results, results51, go_sem]) rfl ⟨by rw [HK.out], HB4.out⟩
end Go.Proofs.Zq
namespace Edt
open Go Go.Lib Tre Prs
def Zel (l : Line) : Bool := bits .and .i64 l.mark 2 != 0
def Zse (L : List Line) (P : List ByteArray) (a e : Nat) : Bool := Zsf L P || ((L.drop a).take (e - a)).any Zel
end Edt
namespace Go.Proofs.Zq
open Tryz
open Go Go.RowKit Go.Sort Tre Lx Prs Edt
theorem Zakg (l : Line) (w : World) :
 Calls prog 95 #[.agg #[.int .i64 l.depth, .string l.word, .int .i64 l.mark]] w fun e w' => e = .returned (.bool (Zel l)) ∧ Below w.heap.size w w' := by
 have hb := Zhd ((Yac w.heap.size w).alloc (Yaf _) (.cells #[.int .i64 l.depth, .string l.word, .int .i64 l.mark] 62));unfold Zel;cases hq : (bits .and .i64 l.mark 2 != 0) with
 | true =>
   go_enter func95, ntmps95;go_wp2;go_ret;exact ⟨rfl, hb.out⟩
 | false =>
   go_enter func95, ntmps95;go_wp2;go_ret;exact ⟨rfl, hb.out⟩
theorem Zaga (A : Option Addr) (c : Nat) (L : List Line) (w : World) (hR : Rd w 3 A L.length (lines L)) (hL : L.length ≤ 1000000) :
 Calls prog 126 #[.slice A L.length c, .func (.func 95) #[] #[]] w fun e w' => e = .returned (.int .i64 (Zbk Zel 0 L)) ∧ Below w.heap.size w w' := by
 have HF := Zhd (fun W (l : Line) => Zakg l W)
 have HR := Zhd hR;obtain ⟨f, hf⟩ : ∃ f, Zel = f := ⟨_, rfl⟩;rw [hf] at HF ⊢;have HQ0 : Hid (Zbk f 0 L = Zbk f 0 (L.drop 0)) := rfl;clear hR hf;go_enter func126, ntmps126;go_wp2;go_loopw [8] (fun vi wr => ∃ k : Nat, k ≤ L.length ∧ vi = .int .i64 k ∧ Hid (Zbk f 0 L = Zbk f k (L.drop k)) ∧ Hid (Below w.heap.size w wr)) (fun vi _ => L.length - (intOf vi).toNat)
 case atStart => exact ⟨0, Yav _, rfl, HQ0, Yac _ _⟩
 case round =>
  clear HQ0;obtain ⟨k, hk, rfl, HQ, HB⟩ := hrel;by_cases hlt : k < L.length
  · obtain ⟨b, o, rfl, hab, hadd, x0, x1, x2⟩ := (HR.out.below HB.out).line hlt;have HC := Zhd (HF.out wr L[k]);have hst : Hid (Zbk f 0 L = if f L[k] then (k : Int) else Zbk f (k + 1) (L.drop (k + 1))) := HQ.out.trans (Zadr hlt)
    generalize L[k] = r at *;clear HQ;cases hf : f r with
    | true =>
      rw [hf] at hst HC;have HK : Hid (Zbk f 0 L = (k : Int)) := by show _ = _; rw [hst.out]; rfl
      clear hst hf;go_wp2_with fail;refine HC.out.mono ?_;rintro e w2 ⟨rfl, hb2⟩;have HB2 := Zhd (Zaa HB.out hb2);clear HC HB hb2 x0 x1 x2;go_wp2;go_ret;exact ⟨Zcg HK.out.symm, HB2.out⟩
    | false =>
      rw [hf] at hst HC;have HK : Hid (Zbk f 0 L = Zbk f (k + 1) (L.drop (k + 1))) := by show _ = _; rw [hst.out]; rfl
      clear hst hf;go_wp2_with fail;refine HC.out.mono ?_;rintro e w2 ⟨rfl, hb2⟩;have HB2 := Zhd (Zaa HB.out hb2);clear HC HB hb2 x0 x1 x2;go_wp2_with fail;go_roundw
      case rel => exact ⟨k + 1, by omega, by go_num, HK, HB2⟩
      case measure => simp [intOf]; omega
  · have hke : k = L.length := by omega
    have HK : Hid (Zbk f 0 L = -1) := by
     show _ = _;rw [HQ.out, Ybd (by omega)]; rfl
    clear HQ;go_wp2;go_ret;exact ⟨Zcg HK.out.symm, HB.out⟩
theorem Zvl (A : Option Addr) (c : Nat) (L : List Line) (w : World) (hR : Rd w 3 A L.length (lines L)) (hL : L.length ≤ 1000000) :
 Calls prog 94 #[.slice A L.length c, .func (.func 95) #[] #[]] w fun e w' => e = .returned (.bool (L.any Zel)) ∧ Below w.heap.size w w' := by
 have HI := Zhd (Zaga A c L w hR hL);have HX : Hid (decide (0 ≤ Zbk Zel 0 L) = L.any Zel) := Zzf _ _ _;clear hR;generalize Zbk Zel 0 L = z at *;go_enter func94, ntmps94;go_wp2_with fail;refine HI.out.mono ?_;rintro e w2 ⟨rfl, hb2⟩;go_wp2;go_ret;exact ⟨by rw [← HX.out]; rfl, hb2⟩
theorem Zadl (A : Option Addr) (cap : Nat) (L : List Line) (Ap : Option Addr) (cp : Nat) (P : List ByteArray) (n E : Nat) (w : World) (hR : Rd w 3 A L.length (lines L)) (hcap : L.length ≤ cap) (hc : cap ≤ maxLen) (hr : Zab L = true) (hP : Rd w 1 Ap P.length (sv P)) (hcp : P.length ≤ cp) (hc2 : cp ≤ maxLen) (hn : n < L.length) (hnE1 : n ≤ E) (hEL : E ≤ L.length) :
 Calls prog 52 #[.slice A L.length cap, .slice Ap P.length cp, .int .i64 (n : Int), .int .i64 (E : Int)] w fun e w' => e = .returned (.bool (Zse L P n E)) ∧ Below w.heap.size w w' := by
 have HK := Zhd (Zwb A cap L Ap cp P w hR hcap hc hr hP hcp hc2);obtain ⟨B, O, rfl, hab, hadd, -, -, -⟩ := hR.line hn;have h200 := Zas hr;have hMR : Rd w 3 (some ⟨B, O + n * 3, none⟩) (E - n) (lines ((L.drop n).take (E - n))) := Zwa (by rw [Yam]; exact Zrf hR (Yeh hn)) (by rw [Yam]; omega)
 have hMl : ((L.drop n).take (E - n)).length = E - n := by rw [Yad, Yam]; omega
 unfold maxLen at hc;have hsub : (E : Int) - (n : Int) = ((E - n : Nat) : Int) := by omega
 have hsub2 : (cap : Int) - (n : Int) = ((cap - n : Nat) : Int) := by omega
 have hnE : (n : Int) ≤ (E : Int) := by omega
 have hEc : (E : Int) ≤ (cap : Int) := by omega
 have hnc : ¬ (cap = n) := by omega
 have hnc2 : ¬ (n = cap) := by omega
 unfold Zse
 have HC : Hid (∀ W, Below w.heap.size w W → Calls prog 94 #[.slice (some ⟨B, O + n * 3, none⟩) (E - n) (cap - n), .func (.func 95) #[] #[]] W fun e w' => e = .returned (.bool (((L.drop n).take (E - n)).any Zel)) ∧ Below W.heap.size W w') := fun W hb => by
  have h := Zvl (some ⟨B, O + n * 3, none⟩) (cap - n) ((L.drop n).take (E - n)) W (by rw [hMl]; exact hMR.below hb) (by omega)
  rw [hMl] at h;exact h
 generalize ((L.drop n).take (E - n)).any Zel = y at *;clear hR hMR hMl hr hP hn;cases hz : Zsf L P with
 | true =>
   rw [hz] at HK;clear hz HC;go_enter func52, ntmps52;go_wp2_with fail;refine HK.out.mono ?_;rintro e w2 ⟨rfl, hb2⟩;go_wp2;go_ret;exact ⟨rfl, hb2⟩
 | false =>
   rw [hz] at HK;clear hz;go_enter func52, ntmps52;go_wp2_with fail;refine HK.out.mono ?_;rintro e w2 ⟨rfl, hb2⟩;have HC2 := Zhd (HC.out w2 hb2);have HB2 := Zhd hb2;clear hb2;go_wp2_with fail;refine HC2.out.mono ?_;rintro e w3 ⟨rfl, hb3⟩;have HB3 := Zhd (Zaa HB2.out hb3);go_wp2;go_ret;exact ⟨rfl, HB3.out⟩
end Go.Proofs.Zq
namespace Edt
open Go Go.Lib Tre Lns
def setB (L : List Line) (P : List ByteArray) : List Line × Int :=
 if (addB L P).2 ≠ 0 then (L, (addB L P).2) else if Zsf L P then (L, 12) else ((addB L P).1, 0)
end Edt
namespace Go.Proofs.Zq
open Tryz
open Go Go.RowKit Go.Sort Tre Lx Prs Lns Edt
theorem Zvp (A : Option Addr) (cap : Nat) (L : List Line) (Ap : Option Addr) (cp : Nat) (P : List ByteArray) (w : World) (hR : Rd w 3 A L.length (lines L)) (hcap : L.length ≤ cap) (hc : cap ≤ maxLen) (hnil : A = none → cap = 0) (hr : Zab L = true) (hP : Rd w 1 Ap P.length (sv P)) (hcp : P.length ≤ cp) (hc2 : cp ≤ maxLen) (hlP : P.length ≤ 1000000) :
 Calls prog 44 #[.slice A L.length cap, .slice Ap P.length cp] w (Zix L P w) := by
 cases hs : Zei P with
 | true =>
   by_cases h16 : P.length ≤ 16
   · exact Zauo A cap L Ap cp P w hR hcap hc hnil hr hP hcp hc2 hs h16
   · have HK : Hid (addB L P = (L, 6)) := by
      show _ = _;unfold addB;rw [Yab (by rw [hr, hs]; simp), Yan (by omega)]
     have HRi := Zbe A cap L w hR hcap hc;rw [hr] at HRi;have HRg := Zhd HRi
     have HSo : Hid (∀ W, Below w.heap.size w W → Calls prog 77 #[.slice Ap P.length cp] W fun e w' => e = .returned (.bool true) ∧ w' = W) := fun W hb => by
      have := Zkl Ap cp P W (hP.below hb) hlP
      rwa [hs] at this
     have hg16 : (16 : Int) < (P.length : Int) := by omega
     have HRd := Zhd hR;have HNl := Zhd hnil;unfold Zix;rw [HK.out];clear HRi hR hP hr hs HK hnil;go_enter func44, ntmps44;go_wp2_with fail;refine HRg.out.mono ?_;rintro e w1 ⟨rfl, hb1⟩;have HB1 := Zhd hb1;clear hb1 HRg;go_wp2_with fail;refine (HSo.out w1 HB1.out).mono ?_;rintro e w2 ⟨rfl, rfl⟩;go_wp2;go_ret2;exact ⟨_, _, rfl, hcap, hc, HRd.out.below HB1.out, HNl.out, HB1.out⟩
 | false =>
   have HK : Hid (addB L P = (L, 1)) := by
    show _ = _;unfold addB;rw [Yan (.inr hs)]
   have HRi := Zbe A cap L w hR hcap hc;rw [hr] at HRi;have HRg := Zhd HRi
   have HSo : Hid (∀ W, Below w.heap.size w W → Calls prog 77 #[.slice Ap P.length cp] W fun e w' => e = .returned (.bool false) ∧ w' = W) := fun W hb => by
    have := Zkl Ap cp P W (hP.below hb) hlP
    rwa [hs] at this
   have HRd := Zhd hR;have HNl := Zhd hnil;unfold Zix;rw [HK.out];clear HRi hR hP hr hs HK hnil;go_enter func44, ntmps44;go_wp2_with fail;refine HRg.out.mono ?_;rintro e w1 ⟨rfl, hb1⟩;have HB1 := Zhd hb1;clear hb1 HRg;go_wp2_with fail;refine (HSo.out w1 HB1.out).mono ?_;rintro e w2 ⟨rfl, rfl⟩;go_wp2;go_ret2;exact ⟨_, _, rfl, hcap, hc, HRd.out.below HB1.out, HNl.out, HB1.out⟩
def Zhc (M : List Line × Int) (w : World) (e : Ending) (w' : World) : Prop :=
 (∃ v, e = .returned (.tuple #[v, .int .i64 M.2]) ∧ Lr w' v M.1) ∧ Below w.heap.size w w'
theorem Zavu (A : Option Addr) (cap : Nat) (L : List Line) (Ap : Option Addr) (cp : Nat) (P : List ByteArray) (w : World) (hR : Rd w 3 A L.length (lines L)) (hcap : L.length ≤ cap) (hc : cap ≤ maxLen) (hnil : A = none → cap = 0) (hr : Zab L = true) (hP : Rd w 1 Ap P.length (sv P)) (hcp : P.length ≤ cp) (hc2 : cp ≤ maxLen) (hlP : P.length ≤ 1000000) :
 Calls prog 25 #[.slice A L.length cap, .slice Ap P.length cp] w (Zhc (setB L P) w) := by
 have HA := Zhd (Zvp A cap L Ap cp P w hR hcap hc hnil hr hP hcp hc2 hlP);have HK := Zhd (fun (W : World) (hb : Below w.heap.size w W) => Zwb A cap L Ap cp P W (hR.below hb) hcap hc hr (hP.below hb) hcp hc2)
 have HL : Hid (∀ W, Below w.heap.size w W → Lr W (.slice A L.length cap) L) := fun W hb => ⟨A, cap, rfl, hcap, hc, hR.below hb, hnil⟩
 unfold Zix at HA;obtain ⟨z, hz⟩ : ∃ z, setB L P = z := ⟨_, rfl⟩;have HZ : Hid (z = if (addB L P).2 ≠ 0 then (L, (addB L P).2) else if Zsf L P then (L, 12) else ((addB L P).1, 0)) := hz.symm
 unfold Zhc;rw [hz];obtain ⟨a, ha⟩ : ∃ a, addB L P = a := ⟨_, rfl⟩;rw [ha] at HA HZ;obtain ⟨M, er⟩ := a;simp only at HA HZ;clear hz hR hP hr ha;go_enter func25, ntmps25;go_wp2_with fail;refine HA.out.mono ?_;rintro e w1 ⟨A1, c1, rfl, h1, h2, h3, h4, hb1⟩;have HM : Hid (Lr w1 (.slice A1 M.length c1) M) := ⟨A1, c1, rfl, h1, h2, h3, h4⟩;have HB1 := Zhd hb1;clear h1 h2 h3 h4 hb1 HA;by_cases he : er = 0
 · subst he;have qe : ((0 : Int) != 0) = false := rfl;have HC := Zhd (HK.out w1 HB1.out);cases hk : Zsf L P with
   | true =>
     rw [hk] at HC HZ;have HZ2 : Hid (z = (L, 12)) := by show _ = _; rw [HZ.out]; rfl
     clear HZ HK hk;go_wp2_with fail;refine HC.out.mono ?_;rintro e w2 ⟨rfl, hb2⟩;have HB2 := Zhd (Zaa HB1.out hb2);go_wp2;go_ret2;rw [HZ2.out];exact ⟨⟨_, rfl, HL.out _ HB2.out⟩, HB2.out⟩
   | false =>
     rw [hk] at HC HZ;have HZ2 : Hid (z = (M, 0)) := by show _ = _; rw [HZ.out]; rfl
     clear HZ HK hk;go_wp2_with fail;refine HC.out.mono ?_;rintro e w2 ⟨rfl, hb2⟩;have HM2 := Zhd (HM.out.below hb2);have HB2 := Zhd (Zaa HB1.out hb2);go_wp2;go_ret2;rw [HZ2.out];exact ⟨⟨_, rfl, HM2.out⟩, HB2.out⟩
 · have HZ2 : Hid (z = (L, er)) := by show _ = _; rw [HZ.out, Yan he]
   have qe : (er != 0) = true := by rw [bne_iff_ne]; exact he
   clear HZ HK he;go_wp2;go_ret2;rw [HZ2.out];exact ⟨⟨_, rfl, HL.out _ HB1.out⟩, HB1.out⟩
end Go.Proofs.Zq
