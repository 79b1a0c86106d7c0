import Derived.Test.YtdamidelojccaaaGreatDoorJ40
import Derived.Test.YtdamidelojccaaaGreatDoorJ41
set_option linter.unusedVariables false
set_option linter.unusedSimpArgs false
set_option maxHeartbeats 1000000
set_option maxRecDepth 100000
namespace Go.Proofs.Zq
open Tryz
open Go Go.RowKit Go.Sort Tre Lx Prs Lns Edt Sch
theorem Zaku {p : List ByteArray} (h : Zhn p = true) : p.length ≤ 1000000 := by
 unfold Zhn at h;simp only [Yar, Yao] at h;omega
theorem Zawr {o : Opp} (h : opOk o = true) : o.path.length ≤ 1000000 ∧ o.text.size ≤ 1000000 := by
 unfold opOk at h;simp only [Yar, Yao] at h;exact ⟨Zaku h.1.1, by omega⟩
def Pst (w : World) (A : Option Addr) (L : List OpM) (b : Nat) (k : Nat) (W : World) : Prop := ∃ C S, Bl W b C 31 ∧ PlC W C S ∧ PsOk k S ∧ Below w.heap.size w W
theorem Zlb {a : Act} {o : Oper} {Cw : World → Prop} {K : Act → Prop} {sp b : Nat} {D : Array Value} (ho : o.op = .load 31 (.tmp sp)) (hx : a.eval (.tmp sp) = .pointer (some ⟨b, 0, none⟩)) (hC : ∀ w, Cw w → Bl w b D 31) (hs : D.size = 15) (hk : K (a.put o.dst (.agg D))) : o.quiet prog a Cw K :=
 ⟨.agg D, fun w hw => by
  have hl := ldPl (hC w hw) hs
  have hr : (execOp a.eval o).run prog w = .ok (.value (.agg D)) w := by
   unfold execOp;simp only [ho, hx, Sem.run_bind, hl, Result.andThen_ok, Sem.run_pure]
  unfold Oper.quietAt;rw [hr];exact ⟨rfl, rfl⟩, hk⟩
theorem stays_any (A : Option Addr) (c : Nat) (L : List OpM) (w : World) (hE : Env w) (hO : Ops w A L) (hc : L.length ≤ c) (hm : c ≤ maxLen) :
 Calls prog 3 #[.slice A L.length c] w fun e w' => e = .returned (.bool true) ∧ Below w.heap.size w w' := by
 have HF := Zasd A c L 40 w hO hc hm (by decide)
 have HEo := Zhd (fun (W : World) (hb : Below w.heap.size w W) => hE.below hb)
 have HOo := Zhd (fun (W : World) (hb : Below w.heap.size w W) => hO.below hb)
 have HAW := Zhd (fun (W : World) (hb : Below w.heap.size w W) => Zalu W (hE.below hb))
 by_cases hf : fewO L 40 < 0
 · have hf1 := Zaoq hf;rw [hf1] at HF;clear hf hf1 hO hE;go_enter func3, ntmps3;go_wp2_with fail;refine HF.mono ?_;rintro e w1 ⟨rfl, hb1⟩;go_wp2_with fail;refine (HAW.out _ hb1).mono ?_;rintro e w2 ⟨rfl, hb2⟩;have HB := Zhd (Zaa hb1 hb2);clear hb1 hb2;go_wp2_with fail;go_ret;exact ⟨rfl, HB.out⟩
 obtain ⟨hf1, hf2⟩ := Zara hf;rw [hf1] at HF;obtain ⟨n, hn⟩ : ∃ n, min L.length 40 = n := ⟨_, rfl⟩;rw [hn] at HF;have hnL : n ≤ L.length := by omega
 have hn40 : n ≤ 40 := by omega
 have hnc : (n : Int) ≤ (c : Int) := by omega
 have hn0 : (0 : Int) ≤ (n : Int) := by omega
 have HX : Hid (∀ k (h : k < n), opOk L[k].o = true) := fun k h => hf2 _ (List.mem_take_iff_getElem.2 ⟨k, by omega, rfl⟩)
 have hge : (decide ((n : Int) < 0)) = false := Yae (by omega)
 clear hf hf1 hf2 hO hE hn;have hm' : (c : Int) ≤ 9223372036854775807 := by unfold maxLen at hm; omega
 go_enter func3, ntmps3;go_wp2_with fail;refine HF.mono ?_;rintro e w1 ⟨rfl, hb1⟩;have HB1 := Zhd hb1;have HN := Zaip w1;clear hb1;go_upto_region 4 with fail
 refine wp_region_lit ?_;go_wp2_with fail;go_at_call 6;refine HN.mono ?_;rintro e w2 ⟨rfl, hb2⟩;rename_i hKx;refine hKx _ _ ?_;clear hKx;try simp only [Act.put, Yaa, Yah, Yai]
 refine Zaej (C := zcc) rfl rfl (by rfl) (by rfl) ?_
 intro w3 hb3 B3;have HB3 := Zhd (Zaa HB1.out (Zaa hb2 hb3));have hgw : w.heap.size ≤ w2.heap.size := Yas HB1.out.size hb2.size;have HL : Hid (Pst w A L w2.heap.size 0 w3) := ⟨zcc, Zts, B3, Zakf _, Zadz, HB3.out⟩;clear hb2 hb3 B3 HB3 HB1 HN;try simp only [Act.put, Yaa, Yah, Yai]
 go_wp2_with fail;go_loopw [21] (fun vk W => ∃ k : Nat, k ≤ n ∧ vk = .int .i64 k ∧ Hid (Pst w A L w2.heap.size k W)) (fun vk _ => n - (intOf vk).toNat)
 case atStart => exact ⟨0, Yav _, rfl, HL⟩
 case round =>
  clear HL;obtain ⟨k, hk, rfl, HA⟩ := hrel;by_cases hlt : k < n
  · obtain ⟨C, S, Bp, hP, hok, hb⟩ := HA.out;have hO := HOo.out _ hb;obtain ⟨b, o, rfl, hbl, hx⟩ := hO.at (k := k) (show k < L.length by omega)
    have hxo := hO.2 L[k] (Yat _);have hko := HX.out k hlt;generalize L[k] = x at *;obtain ⟨xo, xw, xA, xc⟩ := x;have x0 : wr.cell? ⟨b, o + k * 7, none⟩ = some (.int .i64 xo.kind) := (hx 0 (by decide)).trans rfl
    have x1 : wr.cell? ⟨b, o + k * 7 + 1, none⟩ = some (.int .i64 xw) := (hx 1 (by decide)).trans rfl
    have x2 : wr.cell? ⟨b, o + k * 7 + 2, none⟩ = some (.slice xA xo.path.length xc) := (hx 2 (by decide)).trans rfl
    have x3 : wr.cell? ⟨b, o + k * 7 + 3, none⟩ = some (.string xo.word) := (hx 3 (by decide)).trans rfl
    have x4 : wr.cell? ⟨b, o + k * 7 + 4, none⟩ = some (.int .i64 xo.bit) := (hx 4 (by decide)).trans rfl
    have x5 : wr.cell? ⟨b, o + k * 7 + 5, none⟩ = some (.int .i64 xo.n) := (hx 5 (by decide)).trans rfl
    have x6 : wr.cell? ⟨b, o + k * 7 + 6, none⟩ = some (.string xo.text) := (hx 6 (by decide)).trans rfl
    have hkI : (k : Int) < (n : Int) := by omega
    have hk0 : (0 : Int) ≤ (k : Int) := by omega
    obtain ⟨kl1, kl2⟩ := Zawr hko
    have HD : Hid (∀ W, Below wr.heap.size wr W → Calls prog 7 #[.agg C, .agg #[.int .i64 xo.kind, .int .i64 xw, .slice xA xo.path.length xc, .string xo.word, .int .i64 xo.bit, .int .i64 xo.n, .string xo.text]] W (Zdk (doS S xo xw) W)) := fun W hb' =>
     Zxd C S xo xw xA xc W (hP.below hb') (HEo.out _ (Zaa hb hb')) (hxo.1.below hb') hxo.2.1 hxo.2.2.1 kl1 kl2 hxo.2.2.2 k hok (by omega)
    have hst := Zaah hok xo xw;generalize doS S xo xw = z at *;obtain ⟨S2, ze, zn⟩ := z;obtain ⟨hok2, hz2, hz3⟩ := hst;obtain ⟨wx, hwx⟩ : ∃ x, wr.alloc (.cells #[.int .i64 xo.kind, .int .i64 xw, .slice xA xo.path.length xc, .string xo.word, .int .i64 xo.bit, .int .i64 xo.n, .string xo.text] 35) = x := ⟨_, rfl⟩;have hbx : Below wr.heap.size wr wx := by rw [← hwx]; exact (Yac _ _).alloc (Yaf _) _
    have Bx : Bl wx wr.heap.size #[.int .i64 xo.kind, .int .i64 xw, .slice xA xo.path.length xc, .string xo.word, .int .i64 xo.bit, .int .i64 xo.n, .string xo.text] 35 := by rw [← hwx]; exact Bl.new _ _ _
    have y0 : wx.cell? ⟨wr.heap.size, 0, none⟩ = some (.int .i64 xo.kind) := (Bx.cell _).trans rfl;have y1 : wx.cell? ⟨wr.heap.size, 1, none⟩ = some (.int .i64 xw) := (Bx.cell _).trans rfl;have y2 : wx.cell? ⟨wr.heap.size, 2, none⟩ = some (.slice xA xo.path.length xc) := (Bx.cell _).trans rfl;have y3 : wx.cell? ⟨wr.heap.size, 3, none⟩ = some (.string xo.word) := (Bx.cell _).trans rfl;have y4 : wx.cell? ⟨wr.heap.size, 4, none⟩ = some (.int .i64 xo.bit) := (Bx.cell _).trans rfl;have y5 : wx.cell? ⟨wr.heap.size, 5, none⟩ = some (.int .i64 xo.n) := (Bx.cell _).trans rfl;have y6 : wx.cell? ⟨wr.heap.size, 6, none⟩ = some (.string xo.text) := (Bx.cell _).trans rfl;have Bpx := Bp.below hbx;have HBx := Zhd (Zaa hb hbx);have HDx := Zhd (HD.out wx hbx);have hPx := hP.below hbx;have hcs := hP.size;have hns := hP.nostr;have HST : Hid (PsOk k S ∧ PsOk (k + 1) S2 ∧ (ze ≠ 0 → S2 = S) ∧ (Zay S2 = Zay S ∨ Zay S2 = Zay S + 1 ∧ zn = Zay S2)) := ⟨hok, hok2, hz2, hz3⟩;clear hb hbx Bp hP hO hx HD hxo HA hko kl1 kl2 hok hok2 hz2 hz3;go_upto_region 8 with fail
    clear x0 x1 x2 x3 x4 x5 x6;refine wp_region_lit ?_;refine wpList_load_mid rfl 31 _ rfl w2.heap.size 0 (by rfl) C.toList _ Bpx.range underlying31 rfl (by rw [Yaz, hcs]; exact Zao) ?_
    rw [show C.toList.toArray = C from rfl];try simp only [Act.put, Yaa, Yah, Yai]
    go_wp2_with fail;go_at_call 7;refine HDx.out.mono ?_;rintro e w5 ⟨⟨v5, rfl, hv5⟩, hb5⟩;obtain ⟨C2, rfl, hC2⟩ := hv5.cells;have hc2 := hC2.size;rename_i hKx;refine hKx _ _ ?_;clear hKx;try simp only [Act.put, Yaa, Yah, Yai]
    refine Zew (v := .tuple #[.agg C2, .agg #[.int .i64 ze, .int .i64 zn]]) rfl (by rfl) ?_
    try simp only [Act.put, Yaa, Yah, Yai]
    refine Zpt (C := C2) (R := #[.int .i64 ze, .int .i64 zn]) hc2 hC2.one rfl rfl (by rfl) (by rfl) (by rfl) (by rfl) (by rfl) (by rfl) ?_
    intro w6 hbw B7 B8;have hb6 := Zaa hb5 hbw;have B4 := Bpx.below hb6;have hC6 := hC2.below hbw;have hP6 := hPx.below hb6;have HB6 := Zhd (Zaa HBx.out hb6);have hn1 : w2.heap.size < w5.heap.size := by have := Bpx.lt; have := hb5.size; omega
    clear hb5 hbw hb6 Bpx hC2 HBx HDx hPx y0 y1 y2 y3 y4 y5 y6 Bx hwx;try simp only [Act.put, Yaa, Yah, Yai]
    go_upto_region 9 with fail
    go_cut [41] (fun v wx => v = .bool false ∧ Hid (Below w6.heap.size w6 wx))
    case first =>
     by_cases hze : ze = 0
     · subst hze;have y0 : ∀ d os, (grow (redrawn w6 d) os).cell? ⟨w5.heap.size + 1, 0, none⟩ = some (.int .i64 0) := fun d os => cell_regrown ((B8.cell _).trans rfl) d os
       refine wp_region_quiet_below (by kernel_rfl) (by kernel_rfl) ?_
       repeat (go_big_quiet_step (fail))
       refine wpQuiet_nil ?_;intro wq hw';obtain ⟨⟨dq, osq⟩, hw''⟩ := hw';have HBq : Hid (Below w6.heap.size w6 wq) := by show Below _ _ _; rw [hw'']; exact below_regrown w6 dq osq
       clear hw'';go_wp2_with fail;go_meet;exact ⟨rfl, HBq⟩
     · obtain rfl : S2 = S := HST.out.2.2.1 hze;have hzb : (ze != 0) = true := by rw [bne_iff_ne]; exact hze
       have h5 := HST.out.1.len5;obtain ⟨a0, a1, a2, a3, a4, a5, a6, a7, a8, a9, aa, ab, ac, ad, ae, rfl⟩ := Zati hcs;obtain ⟨d0, d1, d2, d3, d4, d5, d6, d7, d8, d9, da, db, dc, dd, de, rfl⟩ := Zati hc2;have HK : Hid (∀ W, Below w6.heap.size w6 W → W.cell? ⟨w2.heap.size, 0, none⟩ = some a0 ∧ W.cell? ⟨w2.heap.size, 1, none⟩ = some a1 ∧ W.cell? ⟨w2.heap.size, 2, none⟩ = some a2 ∧ W.cell? ⟨w2.heap.size, 3, none⟩ = some a3 ∧ W.cell? ⟨w2.heap.size, 4, none⟩ = some a4 ∧ W.cell? ⟨w2.heap.size, 5, none⟩ = some a5 ∧ W.cell? ⟨w2.heap.size, 6, none⟩ = some a6 ∧ W.cell? ⟨w2.heap.size, 7, none⟩ = some a7 ∧ W.cell? ⟨w2.heap.size, 8, none⟩ = some a8 ∧ W.cell? ⟨w2.heap.size, 9, none⟩ = some a9 ∧ W.cell? ⟨w2.heap.size, 10, none⟩ = some aa ∧ W.cell? ⟨w2.heap.size, 11, none⟩ = some ab ∧ W.cell? ⟨w2.heap.size, 12, none⟩ = some ac ∧ W.cell? ⟨w2.heap.size, 13, none⟩ = some ad ∧ W.cell? ⟨w2.heap.size, 14, none⟩ = some ae ∧ W.cell? ⟨w5.heap.size, 0, none⟩ = some d0 ∧ W.cell? ⟨w5.heap.size, 1, none⟩ = some d1 ∧ W.cell? ⟨w5.heap.size, 2, none⟩ = some d2 ∧ W.cell? ⟨w5.heap.size, 3, none⟩ = some d3 ∧ W.cell? ⟨w5.heap.size, 4, none⟩ = some d4 ∧ W.cell? ⟨w5.heap.size, 5, none⟩ = some d5 ∧ W.cell? ⟨w5.heap.size, 6, none⟩ = some d6 ∧ W.cell? ⟨w5.heap.size, 7, none⟩ = some d7 ∧ W.cell? ⟨w5.heap.size, 8, none⟩ = some d8 ∧ W.cell? ⟨w5.heap.size, 9, none⟩ = some d9 ∧ W.cell? ⟨w5.heap.size, 10, none⟩ = some da ∧ W.cell? ⟨w5.heap.size, 11, none⟩ = some db ∧ W.cell? ⟨w5.heap.size, 12, none⟩ = some dc ∧ W.cell? ⟨w5.heap.size, 13, none⟩ = some dd ∧ W.cell? ⟨w5.heap.size, 14, none⟩ = some de ∧ W.cell? ⟨w5.heap.size + 1, 0, none⟩ = some (.int .i64 ze)) := fun W hb => ⟨((B4.below hb).cell _).trans rfl, ((B4.below hb).cell _).trans rfl, ((B4.below hb).cell _).trans rfl, ((B4.below hb).cell _).trans rfl, ((B4.below hb).cell _).trans rfl, ((B4.below hb).cell _).trans rfl, ((B4.below hb).cell _).trans rfl, ((B4.below hb).cell _).trans rfl, ((B4.below hb).cell _).trans rfl, ((B4.below hb).cell _).trans rfl, ((B4.below hb).cell _).trans rfl, ((B4.below hb).cell _).trans rfl, ((B4.below hb).cell _).trans rfl, ((B4.below hb).cell _).trans rfl, ((B4.below hb).cell _).trans rfl, ((B7.below hb).cell _).trans rfl, ((B7.below hb).cell _).trans rfl, ((B7.below hb).cell _).trans rfl, ((B7.below hb).cell _).trans rfl, ((B7.below hb).cell _).trans rfl, ((B7.below hb).cell _).trans rfl, ((B7.below hb).cell _).trans rfl, ((B7.below hb).cell _).trans rfl, ((B7.below hb).cell _).trans rfl, ((B7.below hb).cell _).trans rfl, ((B7.below hb).cell _).trans rfl, ((B7.below hb).cell _).trans rfl, ((B7.below hb).cell _).trans rfl, ((B7.below hb).cell _).trans rfl, ((B7.below hb).cell _).trans rfl, ((B8.below hb).cell _).trans rfl⟩
       have HRp := Zhd (fun (W : World) (hb : Below w6.heap.size w6 W) => Zamq _ S2 W (hP6.below hb) h5)
       have HRq := Zhd (fun (W : World) (hb : Below w6.heap.size w6 W) => Zamq _ S2 W (hC6.below hb) h5)
       have HA := Zhd (Yac w6.heap.size w6).drew;clear B4 B7 B8 hC6 hP6 hns
       go_region_held3 (fun W => W.cell? ⟨w2.heap.size, 0, none⟩ = some a0 ∧ W.cell? ⟨w2.heap.size, 1, none⟩ = some a1 ∧ W.cell? ⟨w2.heap.size, 2, none⟩ = some a2 ∧ W.cell? ⟨w2.heap.size, 3, none⟩ = some a3 ∧ W.cell? ⟨w2.heap.size, 4, none⟩ = some a4 ∧ W.cell? ⟨w2.heap.size, 5, none⟩ = some a5 ∧ W.cell? ⟨w2.heap.size, 6, none⟩ = some a6 ∧ W.cell? ⟨w2.heap.size, 7, none⟩ = some a7 ∧ W.cell? ⟨w2.heap.size, 8, none⟩ = some a8 ∧ W.cell? ⟨w2.heap.size, 9, none⟩ = some a9 ∧ W.cell? ⟨w2.heap.size, 10, none⟩ = some aa ∧ W.cell? ⟨w2.heap.size, 11, none⟩ = some ab ∧ W.cell? ⟨w2.heap.size, 12, none⟩ = some ac ∧ W.cell? ⟨w2.heap.size, 13, none⟩ = some ad ∧ W.cell? ⟨w2.heap.size, 14, none⟩ = some ae ∧ W.cell? ⟨w5.heap.size, 0, none⟩ = some d0 ∧ W.cell? ⟨w5.heap.size, 1, none⟩ = some d1 ∧ W.cell? ⟨w5.heap.size, 2, none⟩ = some d2 ∧ W.cell? ⟨w5.heap.size, 3, none⟩ = some d3 ∧ W.cell? ⟨w5.heap.size, 4, none⟩ = some d4 ∧ W.cell? ⟨w5.heap.size, 5, none⟩ = some d5 ∧ W.cell? ⟨w5.heap.size, 6, none⟩ = some d6 ∧ W.cell? ⟨w5.heap.size, 7, none⟩ = some d7 ∧ W.cell? ⟨w5.heap.size, 8, none⟩ = some d8 ∧ W.cell? ⟨w5.heap.size, 9, none⟩ = some d9 ∧ W.cell? ⟨w5.heap.size, 10, none⟩ = some da ∧ W.cell? ⟨w5.heap.size, 11, none⟩ = some db ∧ W.cell? ⟨w5.heap.size, 12, none⟩ = some dc ∧ W.cell? ⟨w5.heap.size, 13, none⟩ = some dd ∧ W.cell? ⟨w5.heap.size, 14, none⟩ = some de ∧ W.cell? ⟨w5.heap.size + 1, 0, none⟩ = some (.int .i64 ze))
        (first | exact HK.out _ HB3.out | exact HK.out _ HB2.out | exact HK.out _ HBp1.out | exact HK.out _ HBq1.out | exact HK.out _ HA.out)
        (first
         | (go_at_call 8; refine (Zaey _ _ S2 _ Rp.out Rq.out).mono ?_; rintro e w9 ⟨rfl, hb9⟩; have HB3 := Zhd (Zaa HB2.out hb9); clear hb9)
         | (go_at_call 9; refine (HRp.out _ HBq1.out).mono ?_; rintro e w8 ⟨⟨D1, rfl, h1⟩, hb8⟩; have HB2 := Zhd (Zaa HBq1.out hb8); have Rp := Zhd h1; have Rq := Zhd (HRq1.out.below hb8); clear h1 hb8)
         | (go_at_call 9; refine (HRq.out _ HBp1.out).mono ?_; rintro e w8 ⟨⟨D2, rfl, h2⟩, hb8⟩; have HB2 := Zhd (Zaa HBp1.out hb8); have Rq := Zhd h2; have Rp := Zhd (HRp1.out.below hb8); clear h2 hb8)
         | (go_at_call 9; refine (HRp.out _ HA.out).mono ?_; rintro e w7 ⟨⟨D1, rfl, h1⟩, hb7⟩; have HBp1 := Zhd (Zaa HA.out hb7); have HRp1 := Zhd h1; clear h1 hb7)
         | (go_at_call 9; refine (HRq.out _ HA.out).mono ?_; rintro e w7 ⟨⟨D2, rfl, h2⟩, hb7⟩; have HBq1 := Zhd (Zaa HA.out hb7); have HRq1 := Zhd h2; clear h2 hb7))
       all_goals go_wp2_with fail
       all_goals go_meet
       all_goals exact ⟨rfl, HB3⟩
    obtain ⟨rfl, HBc⟩ := hcut;have B4c := B4.below HBc.out;have B7c := B7.below HBc.out;have B8c := B8.below HBc.out;have hCc := hC6.below HBc.out;have hPc := hP6.below HBc.out;have HBd := Zhd (Zaa HB6.out HBc.out);clear B4 B7 B8 hC6 hP6 HBc HB6;go_upto_region 11 with fail
    go_cut [76] (fun v wx => v = .bool false ∧ Hid (Below wc.heap.size wc wx))
    case first =>
     obtain ⟨Ar, nr, cr, er, hr⟩ := hCc.revs;have hnr := hr.len;have h5 := HST.out.1.len5;have h52 := HST.out.2.1.len5;have hle := HST.out.2.1.len;have hl1 := HST.out.2.2.2;have hl2 := HST.out.2.1.last;have hQ4 : ∀ w', (∃ p : Regrown, w' = grow (redrawn wc p.d) p.os) → Bl w' w2.heap.size C 31 := fun w' ⟨p, e⟩ => by rw [e]; exact B4c.below (below_regrown wc p.d p.os)
     have hQ7 : ∀ w', (∃ p : Regrown, w' = grow (redrawn wc p.d) p.os) → Bl w' w5.heap.size C2 31 := fun w' ⟨p, e⟩ => by rw [e]; exact B7c.below (below_regrown wc p.d p.os)
     have y1 : ∀ d os, (grow (redrawn wc d) os).cell? ⟨w5.heap.size + 1, 1, none⟩ = some (.int .i64 zn) := fun d os => cell_regrown ((B8c.cell _).trans rfl) d os
     have y2 : ∀ d os, (grow (redrawn wc d) os).cell? ⟨w5.heap.size, 1, none⟩ = some (.slice Ar nr cr) := fun d os => cell_regrown ((B7c.cell _).trans er) d os
     have hLp := fun (d : Nat) (os : Array Obj) => Calls.regrown_of (Zkf C S (grow (redrawn wc d) os) (hPc.below (below_regrown wc d os)) h5)
     have hLq := fun (d : Nat) (os : Array Obj) => Calls.regrown_of (Zkf C2 S2 (grow (redrawn wc d) os) (hCc.below (below_regrown wc d os)) h52)
     generalize Zay S2 = l2 at *;generalize Zay S = l1 at *;have hlen : (nr : Int) = min l2 5 := by rw [hnr]; exact hle
     have g1 : decide ((5 : Int) < (nr : Int)) = false := Yae (by omega)
     have g1n : decide (5 < nr) = false := Yae (by omega)
     have g1m : (5 < nr) = False := eq_false (by omega)
     have g2 : ((nr : Int) != min l2 5) = false := by rw [hlen]; exact bne_self_eq_false _
     clear hr hle hCc hPc hnr;rcases hl1 with hl1 | ⟨hl1, hl3⟩
     · subst hl1;have g3 : (l2 != l2) = false := bne_self_eq_false _;clear hlen hl2;refine wp_region_quiet_below (by kernel_rfl) (by kernel_rfl) ?_
       repeat (first
        | go_big_quiet_skip
        | (go_big_quiet_want; refine Zlb (b := w2.heap.size) (D := C) rfl (by rfl) hQ4 hcs ?_; try simp only [Act.put, Yaa, Yah, Yai]; go_big_quiet_on)
        | (go_big_quiet_want; refine Zlb (b := w5.heap.size) (D := C2) rfl (by rfl) hQ7 hc2 ?_; try simp only [Act.put, Yaa, Yah, Yai]; go_big_quiet_on)
        | (go_big_quiet_want; go_big_quiet_op; first | go_big_quiet_on | go_big_quiet_call (first | (go_at_call 10; with_reducible exact hLq _ _) | (go_at_call 10; with_reducible exact hLp _ _))))
       refine wpQuiet_nil ?_;intro wq hw';obtain ⟨⟨dq, osq⟩, hw''⟩ := hw';have HBq : Hid (Below wc.heap.size wc wq) := by show Below _ _ _; rw [hw'']; exact below_regrown wc dq osq
       clear hw'';go_wp2_with fail;go_meet;exact ⟨rfl, HBq⟩
     · have hwr : IntKind.i64.wrap (l1 + 1) = l1 + 1 := by rw [IntKind.wrap_i64]; omega
       have g3 : (l2 != l1) = true := by rw [bne_iff_ne]; omega
       have g4 : (l2 != l1 + 1) = false := by rw [hl1]; exact bne_self_eq_false _
       have g5 : (zn != l2) = false := by rw [hl3]; exact bne_self_eq_false _
       clear hl1 hl3 hlen hl2;refine wp_region_quiet_below (by kernel_rfl) (by kernel_rfl) ?_
       repeat (first
        | go_big_quiet_skip
        | (go_big_quiet_want; refine Zlb (b := w2.heap.size) (D := C) rfl (by rfl) hQ4 hcs ?_; try simp only [Act.put, Yaa, Yah, Yai]; go_big_quiet_on)
        | (go_big_quiet_want; refine Zlb (b := w5.heap.size) (D := C2) rfl (by rfl) hQ7 hc2 ?_; try simp only [Act.put, Yaa, Yah, Yai]; go_big_quiet_on)
        | (go_big_quiet_want; go_big_quiet_op; first | go_big_quiet_on | go_big_quiet_call (first | (go_at_call 10; with_reducible exact hLq _ _) | (go_at_call 10; with_reducible exact hLp _ _))))
       refine wpQuiet_nil ?_;intro wq hw';obtain ⟨⟨dq, osq⟩, hw''⟩ := hw';have HBq : Hid (Below wc.heap.size wc wq) := by show Below _ _ _; rw [hw'']; exact below_regrown wc dq osq
       clear hw'';go_wp2_with fail;go_meet;exact ⟨rfl, HBq⟩
    obtain ⟨rfl, HBe⟩ := hcut;generalize hw8 : wc = w8 at *;clear hw8;have B4e := B4c.below HBe.out;have B7e := B7c.below HBe.out;have hCe := hCc.below HBe.out;have HB8 := Zhd (Zaa HBd.out HBe.out);clear B4c B7c B8c hCc hPc HBe HBd;obtain ⟨Ar, nr, cr, er, hr⟩ := hCe.revs;obtain ⟨v0, e0, l0⟩ := hCe.run;obtain ⟨A0, n0, c0, rfl⟩ := l0.slice;have hnr := hr.len;have hcr := hr.1;have hcm := hr.2.1;unfold maxLen at hcm;have HR := Zhd (fun (W : World) (hb : Below w8.heap.size w8 W) (i : Nat) (hi : i < S2.revs.length) => (hr.below hb).at hi)
    have HK : Hid (∀ W, Below w8.heap.size w8 W → W.cell? ⟨w5.heap.size, 0, none⟩ = some (.slice A0 n0 c0) ∧ W.cell? ⟨w5.heap.size, 1, none⟩ = some (.slice Ar nr cr)) := fun W hb => ⟨((B7e.below hb).cell _).trans e0, ((B7e.below hb).cell _).trans er⟩
    have HL0 := Zhd (fun (W : World) (hb : Below w8.heap.size w8 W) => l0.below hb)
    have HNR := Zhd hnr;have HN0 : Hid (n0 = S2.run.length) := by obtain ⟨_, _, e, -⟩ := l0; injection e
    have HBB := Zhd (Yac w8.heap.size w8);clear hnr hr l0 e0 er;obtain ⟨k0, k1⟩ := HK.out w8 HBB.out;go_wp2_with fail;clear k0 k1;go_loopw [80] (fun vi W => ∃ i : Nat, i ≤ nr ∧ vi = .int .i64 i ∧ Hid (Below w8.heap.size w8 W)) (fun vi _ => nr - (intOf vi).toNat)
    case atStart => exact ⟨0, Yav _, rfl, HBB⟩
    case round =>
     clear HBB;obtain ⟨i, hi, rfl, HBr⟩ := hrel;obtain ⟨k0, k1⟩ := HK.out wr HBr.out;by_cases hil : i < nr
     · have hiI : (i : Int) < (nr : Int) := by omega
       have hi0 : (0 : Int) ≤ (i : Int) := by omega
       have hlen := HNR.out;have hi' : i < S2.revs.length := by omega
       obtain ⟨bR, oR, v, rfl, z1, z2, lv⟩ := HR.out wr HBr.out i hi';obtain ⟨Av, nv, cv, rfl⟩ := lv.slice;have e1 := HST.out.2.1.nums i _ (Yag hi')
       have HI : Hid (∀ m, i = m + 1 → ∃ np : Int, (∀ W, Below w8.heap.size w8 W → W.cell? ⟨bR, oR + m * 2, none⟩ = some (.int .i64 np)) ∧ S2.revs[i].1 = np + 1 ∧ -1000000 ≤ np ∧ np ≤ 1000000) := fun m hm2 => by
        have hm' : m < S2.revs.length := by omega
        have e2 := HST.out.2.1.nums m _ (Yag hm');have e3 := HST.out.2.1.last;have e4 := HST.out.2.1.len5;refine ⟨S2.revs[m].1, fun W hb => ?_, by omega, by omega, by omega⟩
        obtain ⟨b2, o2, v2, e5, y1, -, -⟩ := HR.out W hb m hm';injection e5 with e5
        injection e5 with e6 e7
        rw [e6, e7]; exact y1
       clear e1 lv;obtain ⟨nm, hnm⟩ : ∃ x, S2.revs[i].1 = x := ⟨_, rfl⟩;rw [hnm] at z1 HI;clear hnm hlen hi';obtain ⟨wx, hwx⟩ : ∃ x, wr.alloc (.cells #[.int .i64 nm, .slice Av nv cv] 50) = x := ⟨_, rfl⟩;have hbx : Below wr.heap.size wr wx := by rw [← hwx]; exact (Yac _ _).alloc (Yaf _) _
       have Bx : Bl wx wr.heap.size #[.int .i64 nm, .slice Av nv cv] 50 := by rw [← hwx]; exact Bl.new _ _ _
       have HBx := Zhd (Zaa HBr.out hbx);clear hbx HBr;go_upto_region 16 with fail
       clear z1 z2 k0 k1 hwx;go_cut [99] (fun v W => v = .bool false ∧ Hid (Below wx.heap.size wx W))
       case first =>
        by_cases hz : i = 0
        · subst hz;refine wp_region_quiet_below (by kernel_rfl) (by kernel_rfl) ?_
          repeat (go_big_quiet_step (fail))
          refine wpQuiet_nil ?_;intro wq hw';obtain ⟨⟨dq, osq⟩, hw''⟩ := hw';have HBq : Hid (Below wx.heap.size wx wq) := by show Below _ _ _; rw [hw'']; exact below_regrown wx dq osq
          clear hw'';go_wp2_with fail;go_meet;exact ⟨rfl, HBq⟩
        · obtain ⟨m, rfl⟩ : ∃ m, i = m + 1 := ⟨i - 1, by omega⟩
          obtain ⟨np, hn2, rfl, hn3, hn4⟩ := HI.out m rfl;have f0 : ∀ d os, (grow (redrawn wx d) os).cell? ⟨wr.heap.size, 0, none⟩ = some (.int .i64 (np + 1)) := fun d os => cell_regrown ((Bx.cell _).trans rfl) d os
          have f1 : ∀ d os, (grow (redrawn wx d) os).cell? ⟨w5.heap.size, 1, none⟩ = some (.slice (some ⟨bR, oR, none⟩) nr cr) := fun d os => cell_regrown (HK.out wx HBx.out).2 d os
          have f2 : ∀ d os, (grow (redrawn wx d) os).cell? ⟨bR, oR + m * 2, none⟩ = some (.int .i64 np) := fun d os => cell_regrown (hn2 wx HBx.out) d os
          have hw1 : IntKind.i64.wrap (np + 1) = np + 1 := by rw [IntKind.wrap_i64]; omega
          have hw2 : IntKind.i64.wrap (m : Int) = (m : Int) := IntWalk.i64_in _ (by omega)
          have hw3 : IntKind.i64.wrap ((m : Int) + 1 - 1) = (m : Int) := by rw [Int.add_sub_cancel]; exact hw2
          have hm0 : (0 : Int) ≤ (m : Int) := by omega
          have hm1 : (m : Int) < (nr : Int) := by omega
          have hm2 : (0 : Int) < (m : Int) + 1 := by omega
          have g6 : (np + 1 != np + 1) = false := bne_self_eq_false _;refine wp_region_quiet_below (by kernel_rfl) (by kernel_rfl) ?_
          repeat (go_big_quiet_step (fail))
          refine wpQuiet_nil ?_;intro wq hw';obtain ⟨⟨dq, osq⟩, hw''⟩ := hw';have HBq : Hid (Below wx.heap.size wx wq) := by show Below _ _ _; rw [hw'']; exact below_regrown wx dq osq
          clear hw'';go_wp2_with fail;go_meet;exact ⟨rfl, HBq⟩
       obtain ⟨rfl, HBq⟩ := hcut;have HBs := Zhd (Zaa HBx.out HBq.out);clear HBx HBq Bx HI;go_wp2_with fail;go_roundw
       case rel => exact ⟨i + 1, by omega, by go_num, HBs⟩
       case measure => simp [intOf]; omega
     · obtain rfl : nr = i := by omega
       clear k0 k1;go_upto_region 19 with fail
       go_cut [131] (fun v W => v = .bool false ∧ Hid (Below wr.heap.size wr W))
       case first =>
        have hl1 := HNR.out;by_cases hz : nr = 0
        · subst hz;have h0 : n0 = 0 := by rw [HN0.out, HST.out.2.1.none (Yaq hl1.symm)]; rfl
          subst h0;have y0 := fun (d : Nat) (os : Array Obj) => cell_regrown (HK.out wr HBr.out).1 d os
          have y1 := fun (d : Nat) (os : Array Obj) => cell_regrown (HK.out wr HBr.out).2 d os
          clear hl1;refine wp_region_quiet_below (by kernel_rfl) (by kernel_rfl) ?_
          repeat (go_big_quiet_step (fail))
          refine wpQuiet_nil ?_;intro wq hw';obtain ⟨⟨dq, osq⟩, hw''⟩ := hw';have HBq : Hid (Below wr.heap.size wr wq) := by show Below _ _ _; rw [hw'']; exact below_regrown wr dq osq
          clear hw'';go_wp2_with fail;go_meet;exact ⟨rfl, HBq⟩
        · obtain ⟨m, rfl⟩ : ∃ m, nr = m + 1 := ⟨nr - 1, by omega⟩
          have hmr : m < S2.revs.length := by omega
          obtain ⟨bR, oR, v, rfl, -, z2, lv⟩ := HR.out wr HBr.out m hmr;obtain ⟨Av, nv, cv, rfl⟩ := lv.slice;rw [HST.out.2.1.top S2.revs[m] (by rw [Ydf, ← hl1, Yea]; exact Yag hmr)] at lv
          have hSm := fun (d : Nat) (os : Array Obj) => Calls.regrown_of (Zfw (.slice A0 n0 c0) (.slice Av nv cv) S2.run (grow (redrawn wr d) os) ((HL0.out wr HBr.out).below (below_regrown wr d os)) (lv.below (below_regrown wr d os)))
          have y0 := fun (d : Nat) (os : Array Obj) => cell_regrown (HK.out wr HBr.out).1 d os
          have y1 := fun (d : Nat) (os : Array Obj) => cell_regrown (HK.out wr HBr.out).2 d os
          have y2 := fun (d : Nat) (os : Array Obj) => cell_regrown z2 d os
          have hw2 : IntKind.i64.wrap (m : Int) = (m : Int) := IntWalk.i64_in _ (by omega)
          have hw3 : IntKind.i64.wrap ((m : Int) + 1 - 1) = (m : Int) := by rw [Int.add_sub_cancel]; exact hw2
          have hm0 : (0 : Int) ≤ (m : Int) := by omega
          have hm1 : (m : Int) < (m : Int) + 1 := by omega
          have hm2 : (0 : Int) < (m : Int) + 1 := by omega
          have hne1 : (((m : Int) + 1) == 0) = false := by rw [Yak]; omega
          clear z2 lv hl1 hmr;refine wp_region_quiet_below (by kernel_rfl) (by kernel_rfl) ?_
          repeat (go_big_quiet_step ((go_at_call 11; with_reducible exact hSm _ _)))
          refine wpQuiet_nil ?_;intro wq hw';obtain ⟨⟨dq, osq⟩, hw''⟩ := hw';have HBq : Hid (Below wr.heap.size wr wq) := by show Below _ _ _; rw [hw'']; exact below_regrown wr dq osq
          clear hw'';go_wp2_with fail;go_meet;exact ⟨rfl, HBq⟩
       obtain ⟨rfl, HBt⟩ := hcut;have hbt := Zaa HBr.out HBt.out;have B4t := B4e.below hbt;have B7t := B7e.below hbt;have hCt := hCe.below hbt;have HBu := Zhd (Zaa HB8.out hbt);clear hbt B4e B7e hCe HBt HBr;go_upto_region 21 with fail
       refine wp_region_lit ?_;refine Zadj B7t hc2 hCt.one B4t hcs (by rfl) (by rfl) (by rfl) ?_
       intro W2 hoff hbel B4n;have HA7 : Hid (Pst w (some ⟨b, o, none⟩) L w2.heap.size (k + 1) W2) := ⟨C2, S2, B4n, hCt.off B4t (by decide) hns hoff, HST.out.2.1, hbel _ hgw HBu.out⟩
       try simp only [Act.put, Yaa, Yah, Yai]
       go_wp2_with fail;go_roundw
       case rel => exact ⟨k + 1, by omega, by go_num, HA7⟩
       case measure => simp [intOf]; omega
  · obtain rfl : k = n := by omega
    obtain ⟨-, -, -, -, -, hb⟩ := HA.out;have HZ := HAW.out _ hb;go_wp2_with fail;refine HZ.mono ?_;rintro e w4 ⟨rfl, hb4⟩;have HB := Zhd (Zaa hb hb4);clear hb hb4 HA;go_wp2_with fail;go_ret;exact ⟨rfl, HB.out⟩
end Go.Proofs.Zq
