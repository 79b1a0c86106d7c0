import Derived.Test.YtkbojechhmmkcaaGreatDoorK13
set_option linter.unusedVariables false
set_option linter.unusedSimpArgs false
set_option maxHeartbeats 4000000
set_option maxRecDepth 100000
namespace Go.Proofs.Zq
open Tryz
open Go Go.RowKit Go.Sort Sch Adr Mtr Tre
theorem Rd.take {w:World} {A:Option Addr} {P:List ByteArray} (h:Rd w 1 A P.length (sv P)) {n:Nat} (hn:n≤P.length):Rd w 1 A (P.take n).length (sv (P.take n)):=by
 refine⟨by rw[Zie];simp,fun h0=> ?_⟩
 have hl:(P.take n).length=n:=by rw[Yah];omega
 obtain⟨ad,e,hb,hx⟩:=h.2 (by omega)
 refine⟨ad,e,hb,fun j u hu=>hx j u ?_⟩
 have hj:j<n:=by have:=(Ybb.1 hu).1;rw[Zie,hl]at this;exact this
 rw[←hu,Zks (by omega:j<P.length),Zks (by omega:j<(P.take n).length),Ycs]
theorem Zpn {P:List ByteArray} (h:Shw P) (n:Nat):Shw (P.take n):=fun s hs=>h s (Yff hs)
theorem Zacw (r:Rule) (b c pn pp q:Nat) (A2:Option Addr) (c2:Nat) (P:List ByteArray) (w:World) (hE:Env w) (hr:r∈Zan) (hrc:r.path.length≤c) (_hcm:c≤maxLen) (hR:Rd w 1 (some ⟨b,0,none⟩) r.path.length (sv r.path)) (hn:w.cell? ⟨pn,0,none⟩=some (.int .i64 q)) (hc1:w.cell? ⟨pp,0,none⟩=some (.slice A2 P.length c2)) (hP:Rd w 1 A2 P.length (sv P)) (hq:P.length=q+1) (hpc:P.length≤c2) (_hc2:c2≤maxLen) (hpl:P.length≤100000) (hps:Shw P):
 Calls prog 103 #[.agg #[.slice (some ⟨b,0,none⟩) r.path.length c, .bool r.one, .bool r.needed], .pointer (some ⟨pn,0,none⟩), .pointer (some ⟨pp,0,none⟩)] w fun e w'=>e= .returned (.bool (Znr P r))∧Below w.heap.size w w':=by
 obtain⟨w0,hw0⟩: ∃ w0,w.alloc (.cells #[.slice (some ⟨b,0,none⟩) r.path.length c, .bool r.one, .bool r.needed] 106)=w0:=⟨_,rfl⟩;unfold maxLen at _hcm _hc2;have hrl:=Zjl r hr;have hrs:=Zob r hr;have hb0:Below w.heap.size w w0:=by rw[←hw0];exact(Yag _ _).alloc (Yaf _) _
 have HX:Hid (Znr P r=(decide (r.path.length=P.length)&&Zbt (r.path.take q) (P.take q)&&Zln (r.path.getD q ⟨#[]⟩))):=by
  show _=_;unfold Znr;rw[show P.length-1=q by omega]
 have x0:w0.cell? ⟨w.heap.size,0,none⟩=some (.slice (some ⟨b,0,none⟩) r.path.length c):=by rw[←hw0,World.cell?_alloc_at _ _ _ _ rfl];rfl
 have n0:w0.cell? ⟨pn,0,none⟩=some (.int .i64 q):=(hb0.cell (p:=⟨pn,0,none⟩) (Lib.lt_of_cell hn)).trans hn;have y0:w0.cell? ⟨pp,0,none⟩=some (.slice A2 P.length c2):=(hb0.cell (p:=⟨pp,0,none⟩) (Lib.lt_of_cell hc1)).trans hc1;have HB:=Zhd hb0;have X0:=fun m os=>cell_regrown x0 m os
 have N0:=fun m os=>cell_regrown n0 m os
 have Y0:=fun m os=>cell_regrown y0 m os
 have hqi:(q:Int)≤100000:=by omega
 have hqp:(q:Int)≤(P.length:Int):=by omega
 have hqc2:(q:Int)≤(c2:Int):=by omega
 by_cases hl:r.path.length=P.length
 · have hlb:((r.path.length:Int)==(q:Int)+1)=true:=by rw[beq_iff_eq];omega
   have hqr:q<r.path.length:=by omega
   have hqri:(q:Int)<(r.path.length:Int):=by omega
   have hqc:(q:Int)≤(c:Int):=by omega
   have hM:=Zlq (some ⟨b,0,none⟩) c (r.path.take q) A2 c2 (P.take q) w0 (hE.below hb0) ((hR.below hb0).take (by omega)) ((hP.below hb0).take (by omega)) (by rw[Yah];omega) (by rw[Yah];omega) (Zpn hrs _) (Zpn hps _)
   rw[show(r.path.take q).length=q by rw[Yah];omega,show(P.take q).length=q by rw[Yah];omega]at hM
   have hm: ∀ m os,Calls prog 101 #[.slice (some ⟨b,0,none⟩) q c, .slice A2 q c2] (grow (redrawn w0 m) os) fun e w'=>e= .returned (.bool (Zbt (r.path.take q) (P.take q)))∧ ∃ p:Regrown,w'=grow (redrawn w0 p.d) p.os:=fun m os=>by
    have hbr:=below_regrown w0 m os;have:=Zlq (some ⟨b,0,none⟩) c (r.path.take q) A2 c2 (P.take q) (grow (redrawn w0 m) os) ((hE.below hb0).below hbr) (((hR.below hb0).below hbr).take (by omega)) (((hP.below hb0).below hbr).take (by omega)) (by rw[Yah];omega) (by rw[Yah];omega) (Zpn hrs _) (Zpn hps _)
    rw[show(r.path.take q).length=q by rw[Yah];omega,show(P.take q).length=q by rw[Yah];omega]at this
    exact Calls.regrown_of this
   have HX2:Hid (Znr P r=(Zbt (r.path.take q) (P.take q)&&Zln r.path[q])):=by
    show _=_;rw[HX.out,Yal hl,Yar,Yaj hqr];rfl
   obtain⟨B',O',hA',-,-,z0⟩:=(hR.below hb0).strAt hqr;injection hA' with hA'
   injection hA' with e1 e2
   subst e1 e2;rw[Ybi]at z0;have Z0:=fun m os=>cell_regrown z0 m os
   have hp: ∀ m os,Calls prog 104 #[.string r.path[q], .string ⟨#[36]⟩] (grow (redrawn w0 m) os) fun e w'=>e= .returned (.bool (Zln r.path[q]))∧ ∃ p:Regrown,w'=grow (redrawn w0 p.d) p.os:=fun m os=>
    (Tryz.strings_HasPrefix r.path[q] ⟨#[36]⟩ (grow (redrawn w0 m) os)).mono fun _ _ ⟨he,hm⟩=>⟨he,⟨m,os⟩,hm⟩
   clear hE hR hP hps hn hc1 hb0 x0 n0 y0 z0 hM HX hq hl hrl hrs;generalize Zbt (r.path.take q) (P.take q)=mb at *;generalize Zln r.path[q]=tb at *;generalize r.path[q]=s at *;cases mb with
   | false=>
     have HK:Hid (Znr P r=false):=by show _=_;rw[HX2.out];rfl
     clear HX2 hp;go_enter func103,ntmps103;go_wp2_with fail;refine wp_region_quiet_below (by kernel_rfl) (by kernel_rfl) ?_
     repeat (go_big_quiet_step ((go_at_call 101;exact hm _ _)))
     refine wpQuiet_nil ?_;intro _ hw';obtain⟨⟨dq,osq⟩,hw''⟩:=hw';subst hw'';go_wp2_with fail;go_ret;exact⟨Zah HK.out.symm,Zaa HB.out (below_regrown w0 dq osq)⟩
   | true=>
     have HK:Hid (Znr P r=tb):=by show _=_;rw[HX2.out];rfl
     clear HX2;go_enter func103,ntmps103;go_wp2_with fail;refine wp_region_quiet_below (by kernel_rfl) (by kernel_rfl) ?_
     repeat (go_big_quiet_step ((first|(go_at_call 101;exact hm _ _)|(go_at_call 104;exact hp _ _))))
     refine wpQuiet_nil ?_;intro _ hw';obtain⟨⟨dq,osq⟩,hw''⟩:=hw';subst hw'';go_wp2_with fail;go_ret;exact⟨Zah HK.out.symm,Zaa HB.out (below_regrown w0 dq osq)⟩
 · have hlb:((r.path.length:Int)==(q:Int)+1)=false:=by rw[Yak];omega
   have HK:Hid (Znr P r=false):=by show _=_;rw[HX.out,Yai hl];rfl
   clear hE hR hP hps hn hc1 hb0 x0 n0 y0 HX hq hl hrl hrs;go_enter func103,ntmps103;go_wp2_with fail;refine wp_region_quiet_below (by kernel_rfl) (by kernel_rfl) ?_
   repeat (go_big_quiet_step (fail))
   refine wpQuiet_nil ?_;intro _ hw';obtain⟨⟨dq,osq⟩,hw''⟩:=hw';subst hw'';go_wp2_with fail;go_ret;exact⟨Zah HK.out.symm,Zaa HB.out (below_regrown w0 dq osq)⟩
theorem Zafs (A:Option Addr) (c:Nat) (A2:Option Addr) (c2:Nat) (P:List ByteArray) (w:World) (hE:Env w) (hR:Zpx w A) (hP:Rd w 1 A2 P.length (sv P)) (h1:1≤P.length) (hpc:P.length≤c2) (hc2:c2≤maxLen) (hpl:P.length≤100000) (hps:Shw P):
 Calls prog 61 #[.slice A 34 c, .slice A2 P.length c2] w fun e w'=>e= .returned (.int .i64 (Zgl P))∧Below w.heap.size w w':=by
 obtain⟨q,hq⟩: ∃ q,P.length=q+1:=⟨P.length-1,by omega⟩
 obtain⟨wb,hwb⟩: ∃ wb,w.heap.size=wb:=⟨_,rfl⟩;obtain⟨w0,hw0⟩: ∃ w0,(w.alloc (.cells #[.slice A2 P.length c2] 34)).alloc (.cells #[.int .i64 q] 3)=w0:=⟨_,rfl⟩;have hb0:Below w.heap.size w w0:=by rw[←hw0];exact((Yag _ _).alloc (Yaf _) _).alloc (by simp) _
 have hsz:w0.heap.size=wb+2:=by rw[←hw0,←hwb];simp
 have y0:w0.cell? ⟨wb,0,none⟩=some (.slice A2 P.length c2):=by
  rw[←hw0,←hwb,World.cell?_alloc_lt _ _ _ (by simp),World.cell?_alloc_at _ _ _ _ rfl];rfl
 have n0:w0.cell? ⟨wb+1,0,none⟩=some (.int .i64 q):=by
  rw[←hw0,World.cell?_alloc_at _ _ _ _ (by simp[hwb])];rfl
 have HIx:=Zhd (Zakk (.pointer (some ⟨wb+1,0,none⟩)) (.pointer (some ⟨wb,0,none⟩)) (Znr P) A c w0 (hR.below hb0) (fun W hbW r hr b c hc1 hc3 hrd=>by
  have hbw:=Zaa hb0 hbW;exact Zacw r b c (wb+1) wb q A2 c2 P W (hE.below hbw) hr hc1 hc3 hrd ((hbW.cell (p:=⟨wb+1,0,none⟩) (by show wb+1<_;rw[hsz];omega)).trans n0) ((hbW.cell (p:=⟨wb,0,none⟩) (by show wb<_;rw[hsz];omega)).trans y0) (hP.below hbw) hq hpc hc2 hpl hps))
 have HB:=Zhd hb0;have HQ:Hid ((P.length:Int)-1=(q:Int)):=by show _=_;omega
 have HA:=Zhd (Zxz (f:=Znr P) Zan 0);have HU:Hid (Zgl P=if Zan.any (Znr P)then 2 else 3):=rfl
 have HW:=Zhd hw0;have HWB:=Zhd hwb;clear hE hR hP hps hb0 hsz y0 n0 hw0 hwb hq
 have hlo: -1≤Zay (Znr P) 0 Zan:=by
  rcases Zgc (f:=Znr P) Zan 0 with⟨h,-⟩|⟨j,-,h,-⟩
  · rw[h];decide
  · rw[h];omega
 generalize Zay (Znr P) 0 Zan=ff at *;generalize Zan.any (Znr P)=an at *
 have hCt:Hid (Calls prog 102 #[.slice A 34 c, .func (.func 103) #[] #[.pointer (some ⟨wb+1,0,none⟩), .pointer (some ⟨wb,0,none⟩)]] w0 fun e w'=>e= .returned (.bool an)∧Below w0.heap.size w0 w'):=by
  go_enter func102,ntmps102;go_wp2_with fail;refine HIx.out.mono ?_;rintro e w2 ⟨rfl,hb2⟩;go_wp2;go_ret;exact⟨Zah HA.out,hb2⟩
 clear HIx HA;go_enter func61,ntmps61;go_wp2_with fail;rw[HQ.out,HWB.out,HW.out];refine hCt.out.mono ?_;rintro e w2 ⟨rfl,hb2⟩;have hB2:=Zhd (Zaa HB.out hb2);clear hCt hb2;cases an with
 | true=>
   go_wp2;go_ret;exact⟨Zcb HU.out.symm,by have:=hB2.out;rwa [HWB.out]at this⟩
 | false=>
   go_wp2;go_ret;exact⟨Zcb HU.out.symm,by have:=hB2.out;rwa [HWB.out]at this⟩
def Zdz (P:List ByteArray) (k:Nat):List ByteArray:=((Zan.take k).filter (Zaes P)).map Zapl
theorem Zabx (P:List ByteArray) {k:Nat} (h:k<Zan.length):Zdz P (k+1)=if Zaes P Zan[k]then Zdz P k++ [Zapl Zan[k]]else Zdz P k:=by
 unfold Zdz;rw[Yax h,Yco,Ybv];cases hn:Zaes P Zan[k]<;>simp[hn]
theorem Znx (P:List ByteArray) (k:Nat):(Zdz P k).length≤k:=by
 unfold Zdz;rw[Yay];exact Yat (Yck _ _) (by rw[Yah];omega)
theorem Znw (P:List ByteArray):Zdz P 34=Zek P:=by
 unfold Zdz Zek;rw[←Zjk,Ybw]
theorem Zaqc (A:Option Addr) (c:Nat) (A2:Option Addr) (c2:Nat) (P:List ByteArray) (w:World) (hE:Env w) (hR:Zpx w A) (hP:Rd w 1 A2 P.length (sv P)) (hpl:P.length≤100000) (hps:Shw P):
 Calls prog 105 #[.slice A 34 c, .slice A2 P.length c2] w (Zsf w (Zek P)):=by
 obtain⟨i0,hi,hz0,hz1,hz2⟩:=info_parts Zei;have HR:=Zhd hR;have HE:=Zhd hE;have HP:=Zhd hP;have HPS:=Zhd hps;have HL:=Zhd Zjk;clear hR hE hP hps;go_enter func105,ntmps105;go_wp2;go_loopw [5,11] (fun v vi wr=> ∃ k:Nat,k≤34∧vi= .int .i64 k∧Hid (wr.ownsRow w.heap.size 9 1 v (Zdz P k).length (sv (Zdz P k)))∧Hid (Below w.heap.size w wr)) (fun _ vi _=>34-(intOf vi).toNat)
 case atStart=>exact⟨0,Yas _,rfl,World.ownsRow_nil _ _ _ _,Yag _ _⟩
 case round=>
  obtain⟨k,hk,rfl,HO,HB⟩:=hrel;by_cases hlt:k<34
  · have hlr:k<Zan.length:=by rw[HL.out];exact hlt
    obtain⟨B,O,b,cc,rfl,hab,hadd,hc1,hc3,hrd,x0,x1,x2⟩:=(HR.out.below HB.out).one hlr;have hmem:=Yaw hlr;have hrl:=Zjl _ hmem;have hrs:=Zob _ hmem;have hst:=Zabx P hlr;have hnl:=Znx P k;unfold maxLen at hc3;obtain⟨q,hq⟩: ∃ q,Zan[k].path.length=q+1:=⟨Zan[k].path.length-1,by omega⟩
    have HN:Hid (Zaes P Zan[k]=(Zan[k].needed&&Zbt (Zan[k].path.take q) P)):=by show _=_;unfold Zaes;rw[hq,Yez]
    have hqr:q<Zan[k].path.length:=by omega
    have HW:Hid (Zapl Zan[k]=Zan[k].path[q]'hqr):=by
     show _=_;unfold Zapl;rw[show Zan[k].path.length-1=q by omega,Yar,Yaj hqr];rfl
    have hqi:(q:Int)<(Zan[k].path.length:Int):=by omega
    have hqc:(q:Int)≤(cc:Int):=by omega
    have hq0:(0:Int)≤(q:Int):=by omega
    have HQ:Hid ((Zan[k].path.length:Int)-1=(q:Int)):=by show _=_;omega
    have HST:=Zhd hst;obtain⟨wo,hwo⟩: ∃ wo,wr.alloc (.cells #[.slice (some ⟨b,0,none⟩) Zan[k].path.length cc, .bool Zan[k].one, .bool Zan[k].needed] 106)=wo:=⟨_,rfl⟩;have hbo:Below wr.heap.size wr wo:=by rw[←hwo];exact(Yag _ _).alloc (Yaf _) _
    have y0:wo.cell? ⟨wr.heap.size,0,none⟩=some (.slice (some ⟨b,0,none⟩) Zan[k].path.length cc):=by rw[←hwo,World.cell?_alloc_at _ _ _ _ rfl];rfl
    have y2:wo.cell? ⟨wr.heap.size,2,none⟩=some (.bool Zan[k].needed):=by rw[←hwo,World.cell?_alloc_at _ _ _ _ rfl];rfl
    have hbw:=Zaa HB.out hbo;have hM:=Zlq (some ⟨b,0,none⟩) cc (Zan[k].path.take q) A2 c2 P wo (HE.out.below hbw) ((hrd.below hbo).take (by omega)) (HP.out.below hbw) (by rw[Yah];omega) hpl (Zpn hrs _) HPS.out
    rw[show(Zan[k].path.take q).length=q by rw[Yah];omega]at hM
    have HM:=Zhd hM;obtain⟨B',O',hA',-,-,z0⟩:=(hrd.below hbo).strAt hqr;injection hA' with hA'
    injection hA' with e1 e2
    subst e1 e2;rw[Ybi]at z0;have HZ:=Zhd z0;have HO2:=Zhd (Zai HO.out hbo);have HB2:=Zhd hbw;rw[hq]at x0 y0 hwo;have hqi2:(q:Int)<(q:Int)+1:=by omega
    have hq10:(q:Int)≤10:=by omega
    clear hM hst z0 hbw HO hrd hrs hmem hc1 hc3 hq hbo hqi HQ;generalize Zbt (Zan[k].path.take q) P=mb at *;generalize Zan[k].path[q]=s at *;generalize Zan[k]=r at *;clear hrl hqr;obtain⟨wrb,hwrb⟩: ∃ wrb,wr.heap.size=wrb:=⟨_,rfl⟩;rw[hwrb]at y0 y2;have hwl:wrb<wo.heap.size:=by rw[←hwo,←hwrb];simp
    cases hrn:r.needed with
    | false=>
      rw[hrn]at x2 y2 HN hwo;have HF:Hid (Zdz P (k+1)=Zdz P k):=by show _=_;rw[HST.out,HN.out];rfl
      have HWO:=Zhd hwo;clear HN HST HM HZ HW hrn hwo y0 y2 hwl;subst hwrb;go_wp2_with fail;go_roundw
      case rel=>exact⟨k+1,by omega,by go_num,by show World.ownsRow _ _ _ _ _ _ _;rw[HF.out,HWO.out];exact HO2.out,by rw[HWO.out];exact HB2⟩
      case measure=>simp[intOf];omega
    | true=>
      rw[hrn]at x2 y2 HN hwo;clear hrn;cases mb with
      | false=>
        have HF:Hid (Zdz P (k+1)=Zdz P k):=by show _=_;rw[HST.out,HN.out];rfl
        clear HN HST HZ HW;go_wp2_with fail;refine HM.out.mono ?_;rintro e w2 ⟨rfl,hb2⟩;have HO3:=Zhd (Zai HO2.out hb2);have HB3:=Zhd (Zaa HB2.out hb2);clear HM HO2 HB2 hb2;go_wp2_with fail;go_roundw
        case rel=>exact⟨k+1,by omega,by go_num,by show World.ownsRow _ _ _ _ _ _ _;rw[HF.out];exact HO3.out,HB3⟩
        case measure=>simp[intOf];omega
      | true=>
        have HF:Hid (Zdz P (k+1)=Zdz P k++ [s]):=by show _=_;rw[HST.out,HN.out,HW.out];rfl
        clear HN HST HW;go_wp2_with fail;refine HM.out.mono ?_;rintro e w2 ⟨rfl,hb2⟩;have HO3:=Zai HO2.out hb2;have HB3:=Zaa HB2.out hb2;have v0:w2.cell? ⟨wrb,0,none⟩=some (.slice (some ⟨b,0,none⟩) (q+1) cc):=(hb2.cell (p:=⟨wrb,0,none⟩) hwl).trans y0;have vz:w2.cell? ⟨b,q,none⟩=some (.string s):=(hb2.cell (p:=⟨b,q,none⟩) (Lib.lt_of_cell HZ.out)).trans HZ.out;generalize Zdz P k=nd at *;clear HM HO2 HB2 hb2 y0 y2 hwo x0 x1 x2 HZ;go_wp2_with (at_builtin;refine Zfv rfl _ _ 34 rfl w w2 9 i0 _ 1 16 underlying34 hi hz0 hz1 hz2 rfl (by decide) (by decide) HO3 HB3 rfl 1 1 [.string s] rfl rfl (by simp;rfl) (by omega) ?_;intro v' w' hown' hb')
        go_roundw
        case rel=>exact⟨k+1,by omega,by go_num,by show World.ownsRow _ _ _ _ _ _ _;rw[HF.out];exact Zgh hown',hb'⟩
        case measure=>simp[intOf];omega
  · obtain rfl:k=34:=by omega
    have HF:=Zhd (Znw P);have HOF:=HO.out;rw[HF.out]at HOF;obtain⟨A',c',rfl,hc1,hc3,hrd,hnz⟩:=Zcr HOF;have K:Hid (Zsf w (Zek P) (.returned (.slice A' (Zek P).length c')) wr):=⟨A',c',rfl,hc1,hc3,hrd,hnz,HB.out⟩;have HK2:=Zhd (show(Zdz P 34).length=(Zek P).length by rw[HF.out])
    clear HOF HO hrd hnz hc1 hc3 HF;go_wp2;go_ret;exact K.out
theorem Zalp {w w':World} {v:Value} (h:Pl w' w.heap.size 106 3 v Zpi): ∃ A c,v= .slice A 34 c∧34≤c∧c≤maxLen∧Zpx w' A:=by
 obtain⟨A,c,e,a,b,r,-⟩:=h.read;rw[Zws]at e a;exact⟨A,c,e,a,b,r⟩
end Go.Proofs.Zq
namespace Sch
open Go Go.Lib Adr Mtr Tre
def Zdq (L:List Line) (a b:ByteArray):Bool:=(Zas L [a,b]).isSome
def Zdl (L:List Line) (s vni:ByteArray):Bool:=
 match Zas L [Zdv,vni,Zeb]with
 |none=>false
 | some n=>match kidsB L n with
   | []=>false
   |k::_=>decide (0≤(pre (Zbd L k).data.toList).1)&& !(isIn (pre (Zbd L k).data.toList).1 (pre (Zbd L k).data.toList).2 (max (ip s.data.toList) 0))
def Zft (L:List Line) (s:ByteArray) (k:Nat):Nat→Bool
 |0=>false
 |n+1=>Zbt [Zch,Zgw,wIp,s] (Zdg L k)||Zft L s (k+1) n
def Zkt (L:List Line) (i:Nat) (s:ByteArray):Bool:=Zft L s 0 i
theorem Zacz (L:List Line): ∀ k,k≤L.length→ ∀ s∈ups L k,∃ j,j<L.length∧s=Zbd L j
 |0,_,s,h=>by rw[Zpv]at h;cases h
 | k+1,hk,s,h=>by
   have hu:=Zhs L k;rw[Zkk]at h;rcases Yav.1 h with rfl|h
   · exact⟨k,by omega,rfl⟩
   · exact Zacz L (Zdd L k+1).toNat (by omega) s h
theorem Zala {L:List Line} {i:Nat} (hi:i<L.length): ∀ s∈Zdg L i,∃ j,j<L.length∧s=Zbd L j:=by
 intro s h;unfold Zdg at h;exact Zacz L (i+1) (by omega) s (by simpa using h)
def m1:List UInt8:= [104,111,115,116,115,32,36,110,97,109,101,32,105,112,32,36,105,112]
def m2:List UInt8:= [98,105,110,100,105,110,103,115,32,36,105,112,32,104,111,115,116,32,36,110,97,109,101]
def m3:List UInt8:= [114,111,117,116,101,115,32,36,112,114,101,102,105,120,32,118,105,97,32,36,110,97,109,101]
def m4:List UInt8:= [104,111,115,116,115,32,36,110,97,109,101,32,118,110,105,115,32,36,118,110,105]
def m5:List UInt8:= [98,105,110,100,105,110,103,115,32,36,105,112,32,118,110,105,32,36,118,110,105]
def Zee (p:List ByteArray):List UInt8:=glue 32 (p.map (·.data.toList))
def Zgp (L:List Line) (i:Nat) (p P:List ByteArray):Bool:=
 if Zee p=m1 then Zkt L i (P.getD 3 ⟨#[]⟩)
 else if Zee p=m2∨Zee p=m3 then !(Zdq L Zch (P.getD 3 ⟨#[]⟩))
 else if Zee p=m4 then !(Zdq L Zdv (P.getD 3 ⟨#[]⟩))
 else if Zee p=m5 then !(Zdq L Zdv (P.getD 3 ⟨#[]⟩))||Zdl L (P.getD 1 ⟨#[]⟩) (P.getD 3 ⟨#[]⟩)
 else false
theorem Zakw: ∀ r∈Zan,(Zee r.path=m1∨Zee r.path=m2∨Zee r.path=m3∨Zee r.path=m4∨Zee r.path=m5)→r.path.length=4:=by decide+kernel
theorem Zaol: ∀ r∈Zan,(Zee r.path).length≤100:=by decide+kernel
end Sch
namespace Go.Proofs.Zq
open Tryz
open Go Go.RowKit Go.Sort Sch Adr Mtr Tre
theorem Zadb {L:List Line} (hr:Zab L=true) {j:Nat} (hj:j<L.length):(Zbd L j).size≤40:=by
 rw[Zbe hj];have:=Zud hr _ (Yaw hj);unfold Zco at this;simp only[Yaq,Yao]at this;omega
theorem Zwm {L:List Line} (hr:Zab L=true) {i:Nat} (hi:i<L.length):Shw (Zdg L i):=fun s hs=>by
 obtain⟨j,hj,rfl⟩:=Zala hi s hs;have:=Zadb hr hj;omega
theorem Zaro (w:World) (P:List ByteArray) (T:TypeId):Rd (w.alloc (.cells (sv P).toArray T)) 1 (some ⟨w.heap.size,0,none⟩) P.length (sv P):=
 ⟨by rw[Zie];simp,fun _=>⟨_,rfl,by simp,fun j u hu=>by
  rw[Zag,Ybi,World.cell?_alloc_at _ _ _ _ rfl];simpa using hu⟩⟩
theorem Zalv (A:Option Addr) (cap:Nat) (L:List Line) (a b:ByteArray) (w:World) (hR:Rd w 3 A L.length (lines L)) (hcap:L.length≤cap) (hc:cap≤maxLen) (hr:Zab L=true):
 Calls prog 141 #[.slice A L.length cap, .string a, .string b] w fun e w'=>e= .returned (.bool (Zdq L a b))∧Below w.heap.size w w':=by
 obtain⟨w0,hw0⟩: ∃ w0,w.alloc (.cells #[.string a, .string b] 9)=w0:=⟨_,rfl⟩;have hb0:Below w.heap.size w w0:=by rw[←hw0];exact(Yag _ _).alloc (Yaf _) _
 have hlit:Rd w0 1 (some ⟨w.heap.size,0,none⟩) 2 (sv [a,b]):=by rw[←hw0];exact Zaro w [a,b] _
 have HC:=Zhd (Zca A cap L (some ⟨w.heap.size,0,none⟩) 2 [a,b] w0 (hR.below hb0) hcap hc hr hlit (Yaf 2) (by unfold maxLen;decide))
 have HX:Hid (Zdq L a b=(Zas L [a,b]).isSome):=rfl;have HB:=Zhd hb0;have HC2:Hid (Calls prog 47 #[.slice A L.length cap, .slice (some ⟨w.heap.size,0,none⟩) 2 2] w0 fun e w'=>e= .returned (.tuple #[.int .i64 (Zrd (Zas L [a,b])), .bool (Zas L [a,b]).isSome])∧Below w0.heap.size w0 w'):=HC.out
 clear hR hb0 hlit HC;generalize Zrd (Zas L [a,b])=z at *;generalize (Zas L [a,b]).isSome=t at *;go_enter func141,ntmps141;go_wp2_with fail;refine HC2.out.mono ?_;rintro e w2 ⟨rfl,hb2⟩;go_wp2;go_ret;exact⟨Zah HX.out.symm,Zaa HB.out hb2⟩
theorem Zaev (A:Option Addr) (cap:Nat) (L:List Line) (s vni:ByteArray) (w:World) (hE:Env w) (hR:Rd w 3 A L.length (lines L)) (hcap:L.length≤cap) (hc:cap≤maxLen) (hr:Zab L=true) (hs:s.size≤100000000):
 Calls prog 142 #[.slice A L.length cap, .string s, .string vni] w fun e w'=>e= .returned (.bool (Zdl L s vni))∧Below w.heap.size w w':=by
 obtain⟨w0,hw0⟩: ∃ w0,w.alloc (.cells #[.string Zdv, .string vni, .string Zeb] 9)=w0:=⟨_,rfl⟩;have hb0:Below w.heap.size w w0:=by rw[←hw0];exact(Yag _ _).alloc (Yaf _) _
 have hlit:Rd w0 1 (some ⟨w.heap.size,0,none⟩) 3 (sv [Zdv,vni,Zeb]):=by rw[←hw0];exact Zaro w [Zdv,vni,Zeb] _
 have HC:=Zca A cap L (some ⟨w.heap.size,0,none⟩) 3 [Zdv,vni,Zeb] w0 (hR.below hb0) hcap hc hr hlit (Yaf 3) (by unfold maxLen;decide)
 have h200:=Zau hr;have HB:=Zhd hb0;have HE:=Zhd (hE.below hb0);have HR:=Zhd (hR.below hb0);have HW0:=hw0;unfold Zdv Zeb at HW0;clear hw0;cases hf:Zas L [Zdv,vni,Zeb]with
 | none=>
   have HX:Hid (Zdl L s vni=false):=by show _=_;unfold Zdl;rw[hf]
   rw[hf]at HC;have HC2:Hid (Calls prog 47 #[.slice A L.length cap, .slice (some ⟨w.heap.size,0,none⟩) 3 3] w0 fun e w'=>e= .returned (.tuple #[.int .i64 0, .bool false])∧Below w0.heap.size w0 w'):=HC
   clear hR hb0 hlit HC hE hf HE HR;go_enter func142,ntmps142;go_wp2_with fail;refine HC2.out.mono ?_;rintro e w2 ⟨rfl,hb2⟩;go_wp2;go_ret;exact⟨Zah HX.out.symm,Zaa HB.out hb2⟩
 | some n=>
   have hn:=Zcu hf
   have HX:Hid (Zdl L s vni=match kidsB L n with| []=>false|k::_=>decide (0≤(pre (Zbd L k).data.toList).1)&& !(isIn (pre (Zbd L k).data.toList).1 (pre (Zbd L k).data.toList).2 (max (ip s.data.toList) 0))):=by
    show _=_;unfold Zdl;rw[hf]
   rw[hf]at HC;have HC2:Hid (Calls prog 47 #[.slice A L.length cap, .slice (some ⟨w.heap.size,0,none⟩) 3 3] w0 fun e w'=>e= .returned (.tuple #[.int .i64 n, .bool true])∧Below w0.heap.size w0 w'):=HC
   have HK:=Zhd (fun W hb=>Zor A cap L n W (HR.out.below hb) hcap hc hr hn)
   have HI:=Zhd (fun W hb=>Zahe s W (HE.out.below hb) hs)
   have HKL:Hid (∀ k∈kidsB L n,k<L.length):=fun k hk=>by
    have:=Zbh.1 hk;have h2:=Zbb L n hn;omega
   have hws:=Zhd (fun j (hj:j<L.length)=>Zadb hr hj)
   clear hR hb0 hlit HC hE hf;go_enter func142,ntmps142;go_wp2_with fail;refine HC2.out.mono ?_;rintro e w2 ⟨rfl,hb2⟩;have HC3:=HK.out w2 hb2;have HB2:=Zhd hb2;clear HC2 hb2 HK;go_wp2_with fail;refine HC3.mono ?_;clear HC3;unfold Zha;rintro e w3 ⟨A3,c3,rfl,hk1,hk2,hrd,hb3⟩;have HB3:=Zhd (Zaa HB2.out hb3);unfold maxLen at hk2;cases hks:kidsB L n with
   | nil=>
     rw[hks]at HX;clear HB2 hb3 hrd hk1 hk2 HKL HI hws;go_wp2;go_ret;exact⟨Zah HX.out.symm,Zaa HB.out HB3.out⟩
   | cons k ks=>
     rw[hks]at hrd HX hk1;have hkl:k<L.length:=HKL.out k (by rw[hks];simp)
     obtain⟨B4,O4,rfl,-,-,k0⟩:=hrd.intAt (i:=0) (by simp)
     simp only[Ydy,Yew]at k0;obtain⟨B,O,rfl,hab,hadd,x0,x1,x2⟩:=(HR.out.below HB3.out).line hkl;have HPr:=Zhd (fun W hb=>Zara L[k].word W (HE.out.below hb) (by have:=hws.out k hkl;rw[Zbe hkl]at this;omega))
     have HX2:Hid (Zdl L s vni=(decide (0≤(pre L[k].word.data.toList).1)&& !(isIn (pre L[k].word.data.toList).1 (pre L[k].word.data.toList).2 (max (ip s.data.toList) 0)))):=by
      show _=_;rw[HX.out,←Zbe hkl]
     generalize L[k].word=sw at *;generalize pre sw.data.toList=pr at *;have hnl:(k::ks).length=ks.length+1:=rfl;clear HX HB2 hb3 hrd hk1 HKL hws x0 x2 hks;have hpr:Hid (Zkr pr= .tuple #[.int .i64 (max pr.1 0), .int .i64 pr.2, .bool (decide (0≤pr.1))]):=rfl;have hir:Hid (Znc (ip s.data.toList)= .tuple #[.int .i64 (max (ip s.data.toList) 0), .bool (decide (0≤ip s.data.toList))]):=rfl;have HIn:=Zhd (fun W=>Zbgn pr.1 pr.2 (max (ip s.data.toList) 0) W)
     by_cases hp0:0≤pr.1
     · have HX3:Hid (Zdl L s vni= !(isIn pr.1 pr.2 (max (ip s.data.toList) 0))):=by show _=_;rw[HX2.out,Yal hp0];rfl
       have hd:Hid (decide (0≤pr.1)=true):=Yal hp0;have hm:Hid (max pr.1 0=pr.1):=by show _=_;omega
       clear HX2 hp0;generalize max (ip s.data.toList) 0=z at *;generalize decide (0≤ip s.data.toList)=zb at *;generalize isIn pr.1 pr.2 z=ib at *;go_wp2_with fail;refine(HPr.out w3 HB3.out).mono ?_;rw[hpr.out,hd.out,hm.out];rintro e w4 ⟨rfl,hb4⟩;have HB4:=Zhd (Zaa HB3.out hb4);clear HPr hb4 hpr;go_wp2_with fail;refine(HI.out w4 HB4.out).mono ?_;rw[hir.out];rintro e w5 ⟨rfl,hb5⟩;have HB5:=Zhd (Zaa HB4.out hb5);clear HI hb5 hir;go_wp2_with fail;refine(HIn.out w5).mono ?_;rintro e w6 ⟨rfl,rfl⟩;go_wp2;go_ret;exact⟨Zah HX3.out.symm,Zaa HB.out HB5.out⟩
     · have HX3:Hid (Zdl L s vni=false):=by show _=_;rw[HX2.out,Yai hp0];rfl
       have hd:Hid (decide (0≤pr.1)=false):=Yai hp0;clear HX2 hp0 HIn;generalize max (ip s.data.toList) 0=z at *;generalize decide (0≤ip s.data.toList)=zb at *;generalize max pr.1 0=y at *;go_wp2_with fail;refine(HPr.out w3 HB3.out).mono ?_;rw[hpr.out,hd.out];rintro e w4 ⟨rfl,hb4⟩;have HB4:=Zhd (Zaa HB3.out hb4);clear HPr hb4 hpr;go_wp2_with fail;refine(HI.out w4 HB4.out).mono ?_;rw[hir.out];rintro e w5 ⟨rfl,hb5⟩;have HB5:=Zhd (Zaa HB4.out hb5);clear HI hb5 hir;go_wp2;go_ret;exact⟨Zah HX3.out.symm,Zaa HB.out HB5.out⟩
theorem Zasy (A:Option Addr) (cap:Nat) (L:List Line) (i:Nat) (A2:Option Addr) (c2:Nat) (P:List ByteArray) (s:ByteArray) (w:World) (hE:Env w) (hR:Rd w 3 A L.length (lines L)) (hcap:L.length≤cap) (hc:cap≤maxLen) (hr:Zab L=true) (hi:i≤L.length) (hP:Rd w 1 A2 P.length (sv P)) (hp3:P[3]?=some s) (hpl:P.length≤100000) (hs:s.size≤100000000):
 Calls prog 140 #[.slice A L.length cap, .int .i64 i, .slice A2 P.length c2] w fun e w'=>e= .returned (.bool (Zkt L i s))∧Below w.heap.size w w':=by
 have h200:=Zau hr;have hP3:3<P.length:=(Ybb.1 hp3).1;have hP3i:(3:Int)<(P.length:Int):=by omega
 have hPs:P[3]=s:=(Ybb.1 hp3).2;have HE:=Zhd hE;have HR:=Zhd hR;have HP:=Zhd hP;have HPS:=Zhd hPs;have HPa:=Zhd (fun(k:Nat) (hk:k<L.length) W hb=>Zwl A cap L k W (hR.below hb) hcap hc hr hk)
 have HSh:=Zhd (fun(k:Nat) (hk:k<L.length)=>Zwm hr hk)
 have HX:Hid (Zkt L i s=Zft L s 0 (i-0)):=rfl;unfold maxLen at hc;clear hE hR hP hPs hp3;go_enter func140,ntmps140;go_wp2;go_loopw [11] (fun vi wr=> ∃ k:Nat,k≤i∧vi= .int .i64 k∧Hid (Zkt L i s=Zft L s k (i-k))∧Hid (Below w.heap.size w wr)) (fun vi _=>i-(intOf vi).toNat)
 case atStart=>exact⟨0,Yas _,rfl,HX,Yag _ _⟩
 case round=>
  clear HX;obtain⟨k,hk,rfl,HQ,HB⟩:=hrel;by_cases hlt:k<i
  · have hkl:k<L.length:=by omega
    have hst:Hid (Zkt L i s=(Zbt [Zch,Zgw,wIp,s] (Zdg L k)||Zft L s (k+1) (i-(k+1)))):=by
     show _=_;rw[HQ.out,show i-k=(i-(k+1))+1 by omega];rfl
    have HPk:=HPa.out k hkl wr HB.out;have HSk:=HSh.out k hkl;have hplen:=Zaca L k;unfold Zxc at HPk;obtain⟨B2,O2,rfl,-,-,z0⟩:=(HP.out.below HB.out).strAt hP3;rw[HPS.out]at z0;generalize Zdg L k=pk at *;clear HQ;go_wp2_with fail;refine HPk.mono ?_;clear HPk;rintro e w2 ⟨A3,c3,rfl,hk1,hk2,hrd,-,hb2⟩;have HB2:=Zhd (Zaa HB.out hb2);have z2:w2.cell? ⟨B2,O2+3,none⟩=some (.string s):=(hb2.cell (p:=⟨B2,O2+3,none⟩) (Lib.lt_of_cell z0)).trans z0;obtain⟨w3,hw3⟩: ∃ w3,w2.alloc (.cells #[.string Zch, .string Zgw, .string wIp, .string s] 9)=w3:=⟨_,rfl⟩;have hb3:Below w2.heap.size w2 w3:=by rw[←hw3];exact(Yag _ _).alloc (Yaf _) _
    have hlit:Rd w3 1 (some ⟨w2.heap.size,0,none⟩) 4 (sv [Zch,Zgw,wIp,s]):=by rw[←hw3];exact Zaro w2 [Zch,Zgw,wIp,s] _
    have HB3:=Zhd (Zaa HB2.out hb3)
    have HM:=Zhd (Zlq (some ⟨w2.heap.size,0,none⟩) 4 [Zch,Zgw,wIp,s] A3 c3 pk w3 (HE.out.below HB3.out) hlit (hrd.below hb3) (by simp) (by omega) (fun x hx=>by
     simp only[Yav,Ybq,or_false]at hx;rcases hx with rfl|rfl|rfl|rfl
     · decide
     · decide
     · decide
     · exact hs) HSk)
    have HM2:Hid (Calls prog 101 #[.slice (some ⟨w2.heap.size,0,none⟩) 4 4, .slice A3 pk.length c3] w3 fun e w'=>e= .returned (.bool (Zbt [Zch,Zgw,wIp,s] pk))∧Below w3.heap.size w3 w'):=HM.out
    generalize Zbt [Zch,Zgw,wIp,s] pk=mb at *;unfold Zch Zgw wIp at hw3;clear HB hb2 z0 hrd hk1 hk2 HB2 hb3 hlit HM HSk;cases mb with
    | true=>
      have HF:Hid (Zkt L i s=true):=by show _=_;rw[hst.out];rfl
      clear hst;go_wp2_with fail;refine HM2.out.mono ?_;rintro e w4 ⟨rfl,hb4⟩;have HB4:=Zhd (Zaa HB3.out hb4);clear HM2 hb4;go_wp2;go_ret;exact⟨Zah HF.out.symm,HB4.out⟩
    | false=>
      have HF:Hid (Zkt L i s=Zft L s (k+1) (i-(k+1))):=by show _=_;rw[hst.out];rfl
      clear hst;go_wp2_with fail;refine HM2.out.mono ?_;rintro e w4 ⟨rfl,hb4⟩;have HB4:=Zhd (Zaa HB3.out hb4);clear HM2 hb4;go_wp2_with fail;go_roundw
      case rel=>exact⟨k+1,by omega,by go_num,HF,HB4⟩
      case measure=>simp[intOf];omega
  · obtain rfl:k=i:=by omega
    have HF:Hid (Zkt L k s=false):=by show _=_;rw[HQ.out,Yel];rfl
    clear HQ;go_wp2;go_ret;exact⟨Zah HF.out.symm,HB.out⟩
theorem Zapx (A:Option Addr) (cap:Nat) (L:List Line) (i:Nat) (b c:Nat) (r:Rule) (A2:Option Addr) (c2:Nat) (P:List ByteArray) (w:World) (hE:Env w) (hR:Rd w 3 A L.length (lines L)) (hcap:L.length≤cap) (hc:cap≤maxLen) (hr:Zab L=true) (hi:i≤L.length)
 (hru:r∈Zan) (hrd:Rd w 1 (some ⟨b,0,none⟩) r.path.length (sv r.path)) (hrc:r.path.length≤c) (hP:Rd w 1 A2 P.length (sv P)) (hPl:r.path.length=P.length) (hpl:P.length≤100000) (hps:Shw P):
 Calls prog 109 #[.slice A L.length cap, .int .i64 i, .slice (some ⟨b,0,none⟩) r.path.length c, .slice A2 P.length c2] w fun e w'=>e= .returned (.bool (Zgp L i r.path P))∧Below w.heap.size w w':=by
 have hlp:(r.path.map (·.data.toList)).length=r.path.length:=Yay _;have hJ:=Zahg (some ⟨b,0,none⟩) c (r.path.map (·.data.toList)) 32 w (by rw[hlp];exact hrc) (by rw[hlp,←Zafn];exact hrd) (fun ad e=>by cases e;rfl) (by have:=Zaol r hru;unfold Zee at this;omega) (by rw[hlp];have:=(Zjl r hru).2;omega)
 rw[hlp]at hJ;have HJ:Hid (Calls prog 139 #[.slice (some ⟨b,0,none⟩) r.path.length c, .string ⟨#[32]⟩] w fun e w'=>e= .returned (.string ⟨(Zee r.path).toArray⟩)∧Below w.heap.size w w'):=hJ
 have h4:=Zakw r hru
 have HX:Hid (Zgp L i r.path P=if Zee r.path=m1 then Zkt L i (P.getD 3 ⟨#[]⟩)
  else if Zee r.path=m2∨Zee r.path=m3 then !(Zdq L Zch (P.getD 3 ⟨#[]⟩))
  else if Zee r.path=m4 then !(Zdq L Zdv (P.getD 3 ⟨#[]⟩))
  else if Zee r.path=m5 then !(Zdq L Zdv (P.getD 3 ⟨#[]⟩))||Zdl L (P.getD 1 ⟨#[]⟩) (P.getD 3 ⟨#[]⟩)
  else false):=rfl
 have Hg:=Zhd (fun l=>show((⟨(Zee r.path).toArray⟩:ByteArray).toList==l)=decide (Zee r.path=l) by
  rw[Lib.toList_data,Zcw,Yby,beq_iff_eq,Yao])
 have HT:=Zhd (fun s W hb hp3 hs=>Zasy A cap L i A2 c2 P s W (hE.below hb) (hR.below hb) hcap hc hr hi (hP.below hb) hp3 hpl hs)
 have HTh:=Zhd (fun a b W hb=>Zalv A cap L a b W (hR.below hb) hcap hc hr)
 have HO:=Zhd (fun s v W hb hs=>Zaev A cap L s v W (hE.below hb) (hR.below hb) hcap hc hr hs)
 have HP:=Zhd hP;have HPS:=Zhd hps;have HP4:Hid ((Zee r.path=m1∨Zee r.path=m2∨Zee r.path=m3∨Zee r.path=m4∨Zee r.path=m5)→4=P.length):=fun h=>(h4 h).symm.trans hPl
 clear hJ hE hR hP hps h4 hrd hPl hlp;generalize Zee r.path=g at *;by_cases e0:g=m1
 · have HK:Hid (Zgp L i r.path P=(Zkt L i (P.getD 3 ⟨#[]⟩))):=by show _=_;rw[HX.out,Yam e0]
   have hP4:=HP4.out (.inl e0);have q0:((⟨g.toArray⟩:ByteArray).toList== [104,111,115,116,115,32,36,110,97,109,101,32,105,112,32,36,105,112])=true:=(Hg.out _).trans (Yal e0);have p0:(⟨g.toArray⟩:ByteArray).toList= [104,111,115,116,115,32,36,110,97,109,101,32,105,112,32,36,105,112]:=by simpa using q0
   have hp3:P[3]?=some (P[3]'(by omega)):=Yaj _
   have hsz:=HPS.out _ (Yaw (by omega:3<P.length))
   have hg3:P.getD 3 ⟨#[]⟩=P[3]'(by omega):=by rw[Yar,hp3];rfl
   rw[hg3]at HK;have h3i:(3:Int)<(P.length:Int):=by omega
   clear HX HP4 Hg e0 HTh HO hg3;go_enter func109,ntmps109;go_wp2_with fail;refine HJ.out.mono ?_;rintro e w2 ⟨rfl,hb2⟩;go_wp2_with fail;refine(HT.out _ w2 hb2 hp3 hsz).mono ?_;rintro e w3 ⟨rfl,hb3⟩;have hb4:=Zaa hb2 hb3;clear HT hb2 hb3 hp3;go_wp2;go_ret;exact⟨Zah HK.out.symm,hb4⟩
 by_cases e1:g=m2
 · have HK:Hid (Zgp L i r.path P=(!(Zdq L Zch (P.getD 3 ⟨#[]⟩)))):=by show _=_;rw[HX.out,Yab e0,Yam (.inl e1)]
   have hP4:=HP4.out (.inr (.inl e1));have q0:((⟨g.toArray⟩:ByteArray).toList== [104,111,115,116,115,32,36,110,97,109,101,32,105,112,32,36,105,112])=false:=(Hg.out _).trans (Yai e0);have p0: ¬ (⟨g.toArray⟩:ByteArray).toList= [104,111,115,116,115,32,36,110,97,109,101,32,105,112,32,36,105,112]:=by simpa using q0
   have q1:((⟨g.toArray⟩:ByteArray).toList== [98,105,110,100,105,110,103,115,32,36,105,112,32,104,111,115,116,32,36,110,97,109,101])=true:=(Hg.out _).trans (Yal e1);have p1:(⟨g.toArray⟩:ByteArray).toList= [98,105,110,100,105,110,103,115,32,36,105,112,32,104,111,115,116,32,36,110,97,109,101]:=by simpa using q1
   have hp3:P[3]?=some (P[3]'(by omega)):=Yaj _
   have hsz:=HPS.out _ (Yaw (by omega:3<P.length))
   have hg3:P.getD 3 ⟨#[]⟩=P[3]'(by omega):=by rw[Yar,hp3];rfl
   rw[hg3]at HK;have h3i:(3:Int)<(P.length:Int):=by omega
   obtain⟨tb,htb⟩: ∃ tb,Zdq L Zch P[3]=tb:=⟨_,rfl⟩;have HTH:=Zhd (fun W hb=>HTh.out Zch P[3] W hb)
   rw[htb]at HTH HK;unfold Zch at HTH;clear HX HP4 Hg e0 e1 HT HO hg3 HTh hp3 htb;go_enter func109,ntmps109;go_wp2_with fail;refine HJ.out.mono ?_;rintro e w2 ⟨rfl,hb2⟩;obtain⟨B2,O2,rfl,-,-,z0⟩:=(HP.out.below hb2).strAt (by omega:3<P.length)
   generalize P[3]=s at *;go_wp2_with fail;refine(HTH.out w2 hb2).mono ?_;rintro e w3 ⟨rfl,hb3⟩;have hb4:=Zaa hb2 hb3;clear HTH hb2 hb3;go_wp2;go_ret;exact⟨Zah HK.out.symm,hb4⟩
 by_cases e2:g=m3
 · have HK:Hid (Zgp L i r.path P=(!(Zdq L Zch (P.getD 3 ⟨#[]⟩)))):=by show _=_;rw[HX.out,Yab e0,Yam (.inr e2)]
   have hP4:=HP4.out (.inr (.inr (.inl e2)));have q0:((⟨g.toArray⟩:ByteArray).toList== [104,111,115,116,115,32,36,110,97,109,101,32,105,112,32,36,105,112])=false:=(Hg.out _).trans (Yai e0);have p0: ¬ (⟨g.toArray⟩:ByteArray).toList= [104,111,115,116,115,32,36,110,97,109,101,32,105,112,32,36,105,112]:=by simpa using q0
   have q1:((⟨g.toArray⟩:ByteArray).toList== [98,105,110,100,105,110,103,115,32,36,105,112,32,104,111,115,116,32,36,110,97,109,101])=false:=(Hg.out _).trans (Yai e1);have p1: ¬ (⟨g.toArray⟩:ByteArray).toList= [98,105,110,100,105,110,103,115,32,36,105,112,32,104,111,115,116,32,36,110,97,109,101]:=by simpa using q1
   have q2:((⟨g.toArray⟩:ByteArray).toList== [114,111,117,116,101,115,32,36,112,114,101,102,105,120,32,118,105,97,32,36,110,97,109,101])=true:=(Hg.out _).trans (Yal e2);have p2:(⟨g.toArray⟩:ByteArray).toList= [114,111,117,116,101,115,32,36,112,114,101,102,105,120,32,118,105,97,32,36,110,97,109,101]:=by simpa using q2
   have hp3:P[3]?=some (P[3]'(by omega)):=Yaj _
   have hsz:=HPS.out _ (Yaw (by omega:3<P.length))
   have hg3:P.getD 3 ⟨#[]⟩=P[3]'(by omega):=by rw[Yar,hp3];rfl
   rw[hg3]at HK;have h3i:(3:Int)<(P.length:Int):=by omega
   obtain⟨tb,htb⟩: ∃ tb,Zdq L Zch P[3]=tb:=⟨_,rfl⟩;have HTH:=Zhd (fun W hb=>HTh.out Zch P[3] W hb)
   rw[htb]at HTH HK;unfold Zch at HTH;clear HX HP4 Hg e0 e1 e2 HT HO hg3 HTh hp3 htb;go_enter func109,ntmps109;go_wp2_with fail;refine HJ.out.mono ?_;rintro e w2 ⟨rfl,hb2⟩;obtain⟨B2,O2,rfl,-,-,z0⟩:=(HP.out.below hb2).strAt (by omega:3<P.length)
   generalize P[3]=s at *;go_wp2_with fail;refine(HTH.out w2 hb2).mono ?_;rintro e w3 ⟨rfl,hb3⟩;have hb4:=Zaa hb2 hb3;clear HTH hb2 hb3;go_wp2;go_ret;exact⟨Zah HK.out.symm,hb4⟩
 by_cases e3:g=m4
 · have HK:Hid (Zgp L i r.path P=(!(Zdq L Zdv (P.getD 3 ⟨#[]⟩)))):=by show _=_;rw[HX.out,Yab e0,Yab (not_or.2 ⟨e1,e2⟩),Yam e3]
   have hP4:=HP4.out (.inr (.inr (.inr (.inl e3))));have q0:((⟨g.toArray⟩:ByteArray).toList== [104,111,115,116,115,32,36,110,97,109,101,32,105,112,32,36,105,112])=false:=(Hg.out _).trans (Yai e0);have p0: ¬ (⟨g.toArray⟩:ByteArray).toList= [104,111,115,116,115,32,36,110,97,109,101,32,105,112,32,36,105,112]:=by simpa using q0
   have q1:((⟨g.toArray⟩:ByteArray).toList== [98,105,110,100,105,110,103,115,32,36,105,112,32,104,111,115,116,32,36,110,97,109,101])=false:=(Hg.out _).trans (Yai e1);have p1: ¬ (⟨g.toArray⟩:ByteArray).toList= [98,105,110,100,105,110,103,115,32,36,105,112,32,104,111,115,116,32,36,110,97,109,101]:=by simpa using q1
   have q2:((⟨g.toArray⟩:ByteArray).toList== [114,111,117,116,101,115,32,36,112,114,101,102,105,120,32,118,105,97,32,36,110,97,109,101])=false:=(Hg.out _).trans (Yai e2);have p2: ¬ (⟨g.toArray⟩:ByteArray).toList= [114,111,117,116,101,115,32,36,112,114,101,102,105,120,32,118,105,97,32,36,110,97,109,101]:=by simpa using q2
   have q3:((⟨g.toArray⟩:ByteArray).toList== [104,111,115,116,115,32,36,110,97,109,101,32,118,110,105,115,32,36,118,110,105])=true:=(Hg.out _).trans (Yal e3);have p3:(⟨g.toArray⟩:ByteArray).toList= [104,111,115,116,115,32,36,110,97,109,101,32,118,110,105,115,32,36,118,110,105]:=by simpa using q3
   have hp3:P[3]?=some (P[3]'(by omega)):=Yaj _
   have hsz:=HPS.out _ (Yaw (by omega:3<P.length))
   have hg3:P.getD 3 ⟨#[]⟩=P[3]'(by omega):=by rw[Yar,hp3];rfl
   rw[hg3]at HK;have h3i:(3:Int)<(P.length:Int):=by omega
   obtain⟨tb,htb⟩: ∃ tb,Zdq L Zdv P[3]=tb:=⟨_,rfl⟩;have HTH:=Zhd (fun W hb=>HTh.out Zdv P[3] W hb)
   rw[htb]at HTH HK;unfold Zdv at HTH;clear HX HP4 Hg e0 e1 e2 e3 HT HO hg3 HTh hp3 htb;go_enter func109,ntmps109;go_wp2_with fail;refine HJ.out.mono ?_;rintro e w2 ⟨rfl,hb2⟩;obtain⟨B2,O2,rfl,-,-,z0⟩:=(HP.out.below hb2).strAt (by omega:3<P.length)
   generalize P[3]=s at *;go_wp2_with fail;refine(HTH.out w2 hb2).mono ?_;rintro e w3 ⟨rfl,hb3⟩;have hb4:=Zaa hb2 hb3;clear HTH hb2 hb3;go_wp2;go_ret;exact⟨Zah HK.out.symm,hb4⟩
 by_cases e4:g=m5
 · have HK:Hid (Zgp L i r.path P=(!(Zdq L Zdv (P.getD 3 ⟨#[]⟩))||Zdl L (P.getD 1 ⟨#[]⟩) (P.getD 3 ⟨#[]⟩))):=by show _=_;rw[HX.out,Yab e0,Yab (not_or.2 ⟨e1,e2⟩),Yab e3,Yam e4]
   have hP4:=HP4.out (.inr (.inr (.inr (.inr e4))));have q0:((⟨g.toArray⟩:ByteArray).toList== [104,111,115,116,115,32,36,110,97,109,101,32,105,112,32,36,105,112])=false:=(Hg.out _).trans (Yai e0);have p0: ¬ (⟨g.toArray⟩:ByteArray).toList= [104,111,115,116,115,32,36,110,97,109,101,32,105,112,32,36,105,112]:=by simpa using q0
   have q1:((⟨g.toArray⟩:ByteArray).toList== [98,105,110,100,105,110,103,115,32,36,105,112,32,104,111,115,116,32,36,110,97,109,101])=false:=(Hg.out _).trans (Yai e1);have p1: ¬ (⟨g.toArray⟩:ByteArray).toList= [98,105,110,100,105,110,103,115,32,36,105,112,32,104,111,115,116,32,36,110,97,109,101]:=by simpa using q1
   have q2:((⟨g.toArray⟩:ByteArray).toList== [114,111,117,116,101,115,32,36,112,114,101,102,105,120,32,118,105,97,32,36,110,97,109,101])=false:=(Hg.out _).trans (Yai e2);have p2: ¬ (⟨g.toArray⟩:ByteArray).toList= [114,111,117,116,101,115,32,36,112,114,101,102,105,120,32,118,105,97,32,36,110,97,109,101]:=by simpa using q2
   have q3:((⟨g.toArray⟩:ByteArray).toList== [104,111,115,116,115,32,36,110,97,109,101,32,118,110,105,115,32,36,118,110,105])=false:=(Hg.out _).trans (Yai e3);have p3: ¬ (⟨g.toArray⟩:ByteArray).toList= [104,111,115,116,115,32,36,110,97,109,101,32,118,110,105,115,32,36,118,110,105]:=by simpa using q3
   have q4:((⟨g.toArray⟩:ByteArray).toList== [98,105,110,100,105,110,103,115,32,36,105,112,32,118,110,105,32,36,118,110,105])=true:=(Hg.out _).trans (Yal e4);have p4:(⟨g.toArray⟩:ByteArray).toList= [98,105,110,100,105,110,103,115,32,36,105,112,32,118,110,105,32,36,118,110,105]:=by simpa using q4
   have hp3:P[3]?=some (P[3]'(by omega)):=Yaj _
   have hsz:=HPS.out _ (Yaw (by omega:3<P.length))
   have hg3:P.getD 3 ⟨#[]⟩=P[3]'(by omega):=by rw[Yar,hp3];rfl
   rw[hg3]at HK;have hg1:P.getD 1 ⟨#[]⟩=P[1]'(by omega):=by rw[Yar,Yaj (by omega)];rfl
   rw[hg1]at HK;have hsz1:=HPS.out _ (Yaw (by omega:1<P.length))
   have h3i:(3:Int)<(P.length:Int):=by omega
   have h1i:(1:Int)<(P.length:Int):=by omega
   clear HX HP4 Hg e0 e1 e2 e3 e4 HT hg3 hp3 hg1;go_enter func109,ntmps109;go_wp2_with fail;refine HJ.out.mono ?_;rintro e w2 ⟨rfl,hb2⟩;obtain⟨B2,O2,rfl,-,-,z3⟩:=(HP.out.below hb2).strAt (by omega:3<P.length)
   obtain⟨B3,O3,hA3,-,-,z1⟩:=(HP.out.below hb2).strAt (by omega:1<P.length)
   injection hA3 with hA3
   injection hA3 with ea eb
   subst ea eb;have hth: ∀ m os,Calls prog 141 #[.slice A L.length cap, .string Zdv, .string P[3]] (grow (redrawn w2 m) os) fun e w'=>e= .returned (.bool (Zdq L Zdv P[3]))∧ ∃ p:Regrown,w'=grow (redrawn w2 p.d) p.os:=fun m os=>Calls.regrown_of (HTh.out Zdv P[3] _ (Zaa hb2 (below_regrown w2 m os)))
   have hou: ∀ m os,Calls prog 142 #[.slice A L.length cap, .string P[1], .string P[3]] (grow (redrawn w2 m) os) fun e w'=>e= .returned (.bool (Zdl L P[1] P[3]))∧ ∃ p:Regrown,w'=grow (redrawn w2 p.d) p.os:=fun m os=>Calls.regrown_of (HO.out P[1] P[3] _ (Zaa hb2 (below_regrown w2 m os)) hsz1)
   have Z3:=fun m os=>cell_regrown z3 m os
   have Z1:=fun m os=>cell_regrown z1 m os
   unfold Zdv at hth;have HK2:Hid (Zgp L i r.path P=(!(Zdq L ⟨#[118,110,105,115]⟩ P[3])||Zdl L P[1] P[3])):=HK.out
   have HB2:=Zhd hb2;clear z3 z1 HTh HO HK hb2;generalize Zdq L ⟨#[118,110,105,115]⟩ P[3]=tb at *;generalize Zdl L P[1] P[3]=ob at *;generalize P[3]=s3 at *;generalize P[1]=s1 at *;cases tb with
   | true=>
     have HK3:Hid (Zgp L i r.path P=ob):=by show _=_;rw[HK2.out];rfl
     clear HK2;go_wp2_with fail;refine wp_region_quiet_below (by kernel_rfl) (by kernel_rfl) ?_
     repeat (go_big_quiet_step ((first|(go_at_call 141;exact hth _ _)|(go_at_call 142;exact hou _ _))))
     refine wpQuiet_nil ?_;intro _ hw';obtain⟨⟨dq,osq⟩,hw''⟩:=hw';subst hw'';go_wp2_with fail;go_ret;exact⟨Zah HK3.out.symm,Zaa HB2.out (below_regrown w2 dq osq)⟩
   | false=>
     have HK3:Hid (Zgp L i r.path P=true):=by show _=_;rw[HK2.out];rfl
     clear HK2 hou;go_wp2_with fail;refine wp_region_quiet_below (by kernel_rfl) (by kernel_rfl) ?_
     repeat (go_big_quiet_step ((go_at_call 141;exact hth _ _)))
     refine wpQuiet_nil ?_;intro _ hw';obtain⟨⟨dq,osq⟩,hw''⟩:=hw';subst hw'';go_wp2_with fail;go_ret;exact⟨Zah HK3.out.symm,Zaa HB2.out (below_regrown w2 dq osq)⟩
 have HK:Hid (Zgp L i r.path P=false):=by show _=_;rw[HX.out,Yab e0,Yab (not_or.2 ⟨e1,e2⟩),Yab e3,Yab e4]
 have q0:(g== [104,111,115,116,115,32,36,110,97,109,101,32,105,112,32,36,105,112])=false:=Yak.2 e0;have p0: ¬ g= [104,111,115,116,115,32,36,110,97,109,101,32,105,112,32,36,105,112]:=e0;have q1:(g== [98,105,110,100,105,110,103,115,32,36,105,112,32,104,111,115,116,32,36,110,97,109,101])=false:=Yak.2 e1;have p1: ¬ g= [98,105,110,100,105,110,103,115,32,36,105,112,32,104,111,115,116,32,36,110,97,109,101]:=e1;have q2:(g== [114,111,117,116,101,115,32,36,112,114,101,102,105,120,32,118,105,97,32,36,110,97,109,101])=false:=Yak.2 e2;have p2: ¬ g= [114,111,117,116,101,115,32,36,112,114,101,102,105,120,32,118,105,97,32,36,110,97,109,101]:=e2;have q3:(g== [104,111,115,116,115,32,36,110,97,109,101,32,118,110,105,115,32,36,118,110,105])=false:=Yak.2 e3;have p3: ¬ g= [104,111,115,116,115,32,36,110,97,109,101,32,118,110,105,115,32,36,118,110,105]:=e3;have q4:(g== [98,105,110,100,105,110,103,115,32,36,105,112,32,118,110,105,32,36,118,110,105])=false:=Yak.2 e4;have p4: ¬ g= [98,105,110,100,105,110,103,115,32,36,105,112,32,118,110,105,32,36,118,110,105]:=e4;clear HX HP4 Hg HT HO HTh;go_enter func109,ntmps109;go_wp2_with fail;refine HJ.out.mono ?_;rintro e w2 ⟨rfl,hb2⟩;go_wp2_with fail;go_ret;exact⟨Zah HK.out.symm,hb2⟩
end Go.Proofs.Zq
