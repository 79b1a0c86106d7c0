import Derived.Test.YtkbojechhmmkcaaGreatDoorJ11
set_option linter.unusedVariables false
set_option linter.unusedSimpArgs false
set_option maxHeartbeats 4000000
set_option maxRecDepth 100000
namespace Sch
open Go Go.Lib Adr Mtr Tre
theorem Zahf {P Q:List ByteArray} {k:Nat} (hk:k<P.length) (hq:k<Q.length):Zbm (P.drop k) (Q.drop k)=(Zll P[k] Q[k]&&Zbm (P.drop (k+1)) (Q.drop (k+1))):=by
 rw[Yay hk,Yay hq];rfl
def Shw (P:List ByteArray):Prop:= ∀ s∈P,s.size≤100000000
end Sch
namespace Go.Proofs.Zq
open Tryz
open Go Go.RowKit Go.Sort Sch Adr Mtr Tre
theorem Zadh (a b:ByteArray):(a.toList==b.toList)=decide (a=b):=Zxm
theorem Zaqh (p s:ByteArray) (w:World) (hE:Env w) (_hp:p.size≤100000000) (hs:s.size≤100000000):
 Calls prog 136 #[.string p, .string s] w fun e w'=>e= .returned (.bool (Zll p s))∧Below w.heap.size w w':=by
 have HP:Hid (Calls prog 104 #[.string p, .string ⟨#[36]⟩] w fun e w'=>e= .returned (.bool (Zjx p))∧w'=w):=Tryz.strings_HasPrefix p ⟨#[36]⟩ w
 have HT:=Zhd (Zatj p s w hE hs);have HF:Hid (Zll p s=if Zjx p then Zez p s else decide (p=s)):=rfl
 have HQ:=Zhd (Zadh p s);cases ht:Zjx p with
 | true=>
   have HK:Hid (Zll p s=Zez p s):=by show _=_;rw[HF.out,ht];rfl
   rw[ht]at HP;clear HF ht hE;go_enter func136,ntmps136;go_wp2_with fail;refine HP.out.mono ?_;rintro e w' ⟨rfl,rfl⟩;clear HP;go_wp2_with fail;refine HT.out.mono ?_;rintro e w' ⟨rfl,hb⟩;clear HT;go_wp2;go_ret;exact⟨Zaj HK.out.symm,hb⟩
 | false=>
   have HK:Hid (Zll p s=decide (p=s)):=by show _=_;rw[HF.out,ht];rfl
   rw[ht]at HP;clear HF ht hE HT;go_enter func136,ntmps136;go_wp2_with fail;refine HP.out.mono ?_;rintro e w' ⟨rfl,rfl⟩;clear HP;go_wp2;go_ret;exact⟨Zaj (by rw[HQ.out,HK.out]),Yae _ _⟩
theorem Zvj (A:Option Addr) (c:Nat) (P:List ByteArray) (A2:Option Addr) (c2:Nat) (Q:List ByteArray) (w:World) (hE:Env w) (hP:Rd w 1 A P.length (sv P)) (hQ:Rd w 1 A2 Q.length (sv Q)) (hpl:P.length≤100000) (_hql:Q.length≤100000) (hps:Shw P) (hqs:Shw Q):
 Calls prog 135 #[.slice A P.length c, .slice A2 Q.length c2, .func (.func 136) #[] #[]] w fun e w'=>e= .returned (.bool (Zbm P Q))∧Below w.heap.size w w':=by
 have HP:=Zhd hP;have HQ:=Zhd hQ;have HE:=Zhd hE;have HPS:=Zhd hps;have HQS:=Zhd hqs;clear hP hQ hE hps hqs;by_cases hl:P.length=Q.length
 · have hl1:((P.length:Int)!=(Q.length:Int))=false:=by rw[hl];simp
   have HM:Hid (Zbm P Q=Zbm (P.drop 0) (Q.drop 0)):=rfl;have HL:=Zhd hl;clear hl;go_enter func135,ntmps135;go_wp2;go_loopw [17] (fun vi wr=> ∃ k:Nat,k≤P.length∧vi= .int .i64 k∧Hid (Zbm P Q=Zbm (P.drop k) (Q.drop k))∧Hid (Below w.heap.size w wr)) (fun vi _=>P.length-(intOf vi).toNat)
   case atStart=>exact⟨0,Yao _,rfl,HM,Yae _ _⟩
   case round=>
    clear HM;obtain⟨k,hk,rfl,HM,HB⟩:=hrel;by_cases hlt:k<P.length
    · have hlq:k<Q.length:=by have:=HL.out;omega
      obtain⟨B,O,rfl,hab,hadd,x0⟩:=(HP.out.below HB.out).strAt hlt;obtain⟨B2,O2,rfl,hab2,hadd2,y0⟩:=(HQ.out.below HB.out).strAt hlq;have hst:Hid (Zbm P Q=(Zll P[k] Q[k]&&Zbm (P.drop (k+1)) (Q.drop (k+1)))):=HM.out.trans (Zahf hlt hlq);have HC:=Zhd (Zaqh P[k] Q[k] wr (HE.out.below HB.out) (HPS.out _ (Yau hlt)) (HQS.out _ (Yau hlq)));generalize P[k]=p at *;generalize Q[k]=q at *;clear HM;cases hf:Zll p q with
      | true=>
        rw[hf]at hst HC;have HM2:Hid (Zbm P Q=Zbm (P.drop (k+1)) (Q.drop (k+1))):=by show _=_;rw[hst.out];rfl
        clear hst hf;go_wp2_with fail;refine HC.out.mono ?_;rintro e w2 ⟨rfl,hb2⟩;have HB2:=Zhd (Zaa HB.out hb2);clear HC HB hb2;go_wp2_with fail;go_roundw
        case rel=>exact⟨k+1,by omega,by go_num,HM2,HB2⟩
        case measure=>simp[intOf];omega
      | false=>
        rw[hf]at hst HC;have HM2:Hid (Zbm P Q=false):=by show _=_;rw[hst.out];rfl
        clear hst hf;go_wp2_with fail;refine HC.out.mono ?_;rintro e w2 ⟨rfl,hb2⟩;have HB2:=Zhd (Zaa HB.out hb2);clear HC HB hb2;go_wp2;go_ret;exact⟨Zaj HM2.out.symm,HB2.out⟩
    · obtain rfl:k=P.length:=by omega
      have HM2:Hid (Zbm P Q=true):=by
       show _=_;rw[HM.out,Ydi,Ybe (by have:=HL.out;omega)];rfl
      clear HM;go_wp2;go_ret;exact⟨Zaj HM2.out.symm,HB.out⟩
 · have hl1:((P.length:Int)!=(Q.length:Int))=true:=by rw[bne_iff_ne];omega
   have HM:Hid (Zbm P Q=false):=Zabn hl;clear hl;go_enter func135,ntmps135;go_wp2;go_ret;exact⟨Zaj HM.out.symm,Yae _ _⟩
theorem Zka (A:Option Addr) (c:Nat) (P:List ByteArray) (A2:Option Addr) (c2:Nat) (Q:List ByteArray) (w:World) (hE:Env w) (hP:Rd w 1 A P.length (sv P)) (hQ:Rd w 1 A2 Q.length (sv Q)) (hpl:P.length≤100000) (hql:Q.length≤100000) (hps:Shw P) (hqs:Shw Q):
 Calls prog 101 #[.slice A P.length c, .slice A2 Q.length c2] w fun e w'=>e= .returned (.bool (Zbm P Q))∧Below w.heap.size w w':=by
 have HC:=Zhd (Zvj A c P A2 c2 Q w hE hP hQ hpl hql hps hqs);clear hP hQ hE hps hqs;go_enter func101,ntmps101;go_wp2_with fail;refine HC.out.mono ?_;rintro e w2 ⟨rfl,hb2⟩;go_wp2;go_ret;exact⟨rfl,hb2⟩
end Go.Proofs.Zq
namespace Sch
open Go Go.Lib Adr Mtr Tre
def Zaw (f:Rule→Bool):Nat→List Rule→Int
 |_,[]=> -1
 |k,r::l=>if f r then(k:Int)else Zaw f (k+1) l
theorem Zfb {f:Rule→Bool}: ∀ (l:List Rule) (k:Nat),(Zaw f k l= -1∧l.find? f=none)∨(∃ j,∃ h:j<l.length,Zaw f k l=((k+j:Nat):Int)∧l.find? f=some l[j])
 | [],k=> .inl ⟨rfl,rfl⟩
 | r ::l,k=>by
   unfold Zaw;cases h:f r with
   |true=>exact .inr ⟨0,by simp,by simp,by simp[h]⟩
   | false=>
     rcases Zfb (f:=f) l (k+1)with⟨h1,h2⟩|⟨j,hj,h1,h2⟩
     · exact .inl ⟨by simpa using h1,by simp[h,h2]⟩
     · exact .inr ⟨j+1,by simpa using hj,by simp only[Ydu,if_false,h1];congr 1;omega,by simp[h,h2]⟩
theorem Zvn {f:Rule→Bool} (l:List Rule) (k:Nat):decide (0≤Zaw f k l)=l.any f:=by
 rcases Zfb (f:=f) l k with⟨h1,h2⟩|⟨j,hj,h1,h2⟩
 · rw[h1];have:l.any f=false:=by rw[List.any_eq_false];intro x hx;have:=List.find?_eq_none.1 h2 x hx;simpa using this
   rw[this];decide
 · rw[h1];have:l.any f=true:=by
    rw[List.any_eq_true];exact⟨l[j],Yau hj,List.find?_some h2⟩
   rw[this,Yal (by omega)]
theorem Zmi: ∀ r∈Zam,Shw r.path:=by
 have h:(Zam.all fun r=>r.path.all fun s=>decide (s.size≤100000000))=true:=by decide+kernel
 intro r hr s hs;have:=Ybq.1 h r hr;simpa using Ybq.1 this s hs
theorem Zig: ∀ r∈Zam,1≤r.path.length∧r.path.length≤4:=by
 have h:(Zam.all fun r=>decide (1≤r.path.length)&&decide (r.path.length≤4))=true:=by decide+kernel
 intro r hr;simpa using Ybq.1 h r hr
end Sch
namespace Go.Proofs.Zq
open Tryz
open Go Go.RowKit Go.Sort Sch Adr Mtr Tre
def Znx (w:World) (A:Option Addr):Prop:=Pd w 3 A Znl
theorem Zahu {i:Nat} (h:i<34): ∃ _hr:i<Zam.length,∃ hi:i<Znl.length,Znl[i]=Zte (Zam[i]):=by
 have hl:Zam.length=34:=by decide+kernel
 refine⟨by omega,by rw[Zuh];exact h, ?_⟩
 unfold Znl;exact Ydj _
theorem Znx.below {w w':World} {A:Option Addr} (h:Znx w A) (hb:Below w.heap.size w w'):Znx w' A:=Pd.below h hb
theorem Znx.one {w:World} {A:Option Addr} (h:Znx w A) {i:Nat} (hi:i<Zam.length):
 ∃ B O b c,A=some ⟨B,O,none⟩∧B<w.heap.size∧(⟨B,O,none⟩:Addr).add (i*3)=⟨B,O+i*3,none⟩∧Zam[i].path.length≤c∧c≤maxLen∧Rd w 1 (some ⟨b,0,none⟩) Zam[i].path.length (sv Zam[i].path)
   ∧w.cell? ⟨B,O+i*3,none⟩=some (.slice (some ⟨b,0,none⟩) Zam[i].path.length c)∧w.cell? ⟨B,O+i*3+1,none⟩=some (.bool Zam[i].one)∧w.cell? ⟨B,O+i*3+2,none⟩=some (.bool Zam[i].needed):=by
 have hl:Zam.length=34:=by decide+kernel
 obtain⟨hr,hi2,e⟩:=Zahu (i:=i) (by omega)
 obtain⟨B,O,v,e1,hb,ha,hv,h0,hj⟩:=Pd.at h hi2;rw[e]at hv hj;obtain⟨b,c,rfl,hc1,hc2,-,-,-,hrd⟩:=hv.slice;exact⟨B,O,b,c,e1,hb,ha,hc1,hc2,hrd,h0,hj 0 _ rfl,hj 1 _ rfl⟩
theorem Zaki (r:Rule) (b c pb:Nat) (A2:Option Addr) (c2:Nat) (P:List ByteArray) (w:World) (hE:Env w) (hr:r∈Zam) (hR:Rd w 1 (some ⟨b,0,none⟩) r.path.length (sv r.path)) (hc1:w.cell? ⟨pb,0,none⟩=some (.slice A2 P.length c2)) (hP:Rd w 1 A2 P.length (sv P)) (hpl:P.length≤100000) (hps:Shw P):
 Calls prog 100 #[.agg #[.slice (some ⟨b,0,none⟩) r.path.length c, .bool r.one, .bool r.needed], .pointer (some ⟨pb,0,none⟩)] w fun e w'=>e= .returned (.bool (Zbm r.path P))∧Below w.heap.size w w':=by
 obtain⟨w0,hw0⟩: ∃ w0,w.alloc (.cells #[.slice (some ⟨b,0,none⟩) r.path.length c, .bool r.one, .bool r.needed] 106)=w0:=⟨_,rfl⟩;have hb0:Below w.heap.size w w0:=by rw[←hw0];exact(Yae _ _).alloc (Yag _) _
 have HC:=Zhd (Zka (some ⟨b,0,none⟩) c r.path A2 c2 P w0 (hE.below hb0) (hR.below hb0) (hP.below hb0) (by have:=(Zig r hr).2;omega) hpl (Zmi r hr) hps)
 have x0:w0.cell? ⟨w.heap.size,0,none⟩=some (.slice (some ⟨b,0,none⟩) r.path.length c):=by rw[←hw0,World.cell?_alloc_at _ _ _ _ rfl];rfl
 have y0:w0.cell? ⟨pb,0,none⟩=some (.slice A2 P.length c2):=(hb0.cell (p:=⟨pb,0,none⟩) (Lib.lt_of_cell hc1)).trans hc1;have HB:=Zhd hb0;clear hE hR hP hc1 hb0 hps;go_enter func100,ntmps100;go_wp2_with fail;refine HC.out.mono ?_;rintro e w2 ⟨rfl,hb2⟩;go_wp2;go_ret;exact⟨rfl,Zaa HB.out hb2⟩
theorem Zif:Zam.length=34:=by decide+kernel
theorem Zts {f:Rule→Bool} {L:List Rule} {k:Nat} (h:k<L.length):Zaw f k (L.drop k)=if f L[k]then(k:Int)else Zaw f (k+1) (L.drop (k+1)):=by
 rw[Yay h];rfl
def Zaug (p:Value) (f:Rule→Bool) (w:World):Prop:= ∀ W,Below w.heap.size w W→ ∀ r∈Zam,∀ b c,r.path.length≤c→c≤maxLen→Rd W 1 (some ⟨b,0,none⟩) r.path.length (sv r.path)→
 Calls prog 100 #[.agg #[.slice (some ⟨b,0,none⟩) r.path.length c, .bool r.one, .bool r.needed],p] W fun e w'=>e= .returned (.bool (f r))∧Below W.heap.size W w'
theorem Zagu (p:Value) (f:Rule→Bool) (A:Option Addr) (c:Nat) (w:World) (hR:Znx w A) (hF:Zaug p f w):
 Calls prog 99 #[.slice A 34 c, .func (.func 100) #[] #[p]] w fun e w'=>e= .returned (.int .i64 (Zaw f 0 Zam))∧Below w.heap.size w w':=by
 have HR:=Zhd hR;have HF:=Zhd hF;have HL:=Zhd Zif;have HQ0:Hid (Zaw f 0 Zam=Zaw f 0 (Zam.drop 0)):=rfl;clear hR hF;go_enter func99,ntmps99;go_wp2;go_loopw [8] (fun vi wr=> ∃ k:Nat,k≤34∧vi= .int .i64 k∧Hid (Zaw f 0 Zam=Zaw f k (Zam.drop k))∧Hid (Below w.heap.size w wr)) (fun vi _=>34-(intOf vi).toNat)
 case atStart=>exact⟨0,Yao _,rfl,HQ0,Yae _ _⟩
 case round=>
  clear HQ0;obtain⟨k,hk,rfl,HQ,HB⟩:=hrel;by_cases hlt:k<34
  · have hlr:k<Zam.length:=by rw[HL.out];exact hlt
    obtain⟨B,O,b,cc,rfl,hab,hadd,hc1,hc2,hrd,x0,x1,x2⟩:=(HR.out.below HB.out).one hlr;have HC:=Zhd (HF.out wr HB.out _ (Yau hlr) b cc hc1 hc2 hrd);have hst:Hid (Zaw f 0 Zam=if f Zam[k]then(k:Int)else Zaw f (k+1) (Zam.drop (k+1))):=HQ.out.trans (Zts hlr)
    generalize Zam[k]=r at *;clear HQ hc1 hc2 hrd;cases hf:f r with
    | true=>
      rw[hf]at hst HC;have HK:Hid (Zaw f 0 Zam=(k:Int)):=by show _=_;rw[hst.out];rfl
      clear hst hf;go_wp2_with fail;refine HC.out.mono ?_;rintro e w2 ⟨rfl,hb2⟩;have HB2:=Zhd (Zaa HB.out hb2);clear HC HB hb2 x0 x1 x2;go_wp2;go_ret;exact⟨Zci HK.out.symm,HB2.out⟩
    | false=>
      rw[hf]at hst HC;have HK:Hid (Zaw f 0 Zam=Zaw f (k+1) (Zam.drop (k+1))):=by show _=_;rw[hst.out];rfl
      clear hst hf;go_wp2_with fail;refine HC.out.mono ?_;rintro e w2 ⟨rfl,hb2⟩;have HB2:=Zhd (Zaa HB.out hb2);clear HC HB hb2 x0 x1 x2;go_wp2_with fail;go_roundw
      case rel=>exact⟨k+1,by omega,by go_num,HK,HB2⟩
      case measure=>simp[intOf];omega
  · obtain rfl:k=34:=by omega
    have HK:Hid (Zaw f 0 Zam= -1):=by
     show _=_;rw[HQ.out,Ybe (by rw[HL.out];exact Yag _)];rfl
    clear HQ;go_wp2;go_ret;exact⟨Zci HK.out.symm,HB.out⟩
def Zauh (p q:Value) (f:Rule→Bool) (w:World):Prop:= ∀ W,Below w.heap.size w W→ ∀ r∈Zam,∀ b c,r.path.length≤c→c≤maxLen→Rd W 1 (some ⟨b,0,none⟩) r.path.length (sv r.path)→
 Calls prog 103 #[.agg #[.slice (some ⟨b,0,none⟩) r.path.length c, .bool r.one, .bool r.needed],p,q] W fun e w'=>e= .returned (.bool (f r))∧Below W.heap.size W w'
theorem Zagv (p q:Value) (f:Rule→Bool) (A:Option Addr) (c:Nat) (w:World) (hR:Znx w A) (hF:Zauh p q f w):
 Calls prog 99 #[.slice A 34 c, .func (.func 103) #[] #[p,q]] w fun e w'=>e= .returned (.int .i64 (Zaw f 0 Zam))∧Below w.heap.size w w':=by
 have HR:=Zhd hR;have HF:=Zhd hF;have HL:=Zhd Zif;have HQ0:Hid (Zaw f 0 Zam=Zaw f 0 (Zam.drop 0)):=rfl;clear hR hF;go_enter func99,ntmps99;go_wp2;go_loopw [8] (fun vi wr=> ∃ k:Nat,k≤34∧vi= .int .i64 k∧Hid (Zaw f 0 Zam=Zaw f k (Zam.drop k))∧Hid (Below w.heap.size w wr)) (fun vi _=>34-(intOf vi).toNat)
 case atStart=>exact⟨0,Yao _,rfl,HQ0,Yae _ _⟩
 case round=>
  clear HQ0;obtain⟨k,hk,rfl,HQ,HB⟩:=hrel;by_cases hlt:k<34
  · have hlr:k<Zam.length:=by rw[HL.out];exact hlt
    obtain⟨B,O,b,cc,rfl,hab,hadd,hc1,hc2,hrd,x0,x1,x2⟩:=(HR.out.below HB.out).one hlr;have HC:=Zhd (HF.out wr HB.out _ (Yau hlr) b cc hc1 hc2 hrd);have hst:Hid (Zaw f 0 Zam=if f Zam[k]then(k:Int)else Zaw f (k+1) (Zam.drop (k+1))):=HQ.out.trans (Zts hlr)
    generalize Zam[k]=r at *;clear HQ hc1 hc2 hrd;cases hf:f r with
    | true=>
      rw[hf]at hst HC;have HK:Hid (Zaw f 0 Zam=(k:Int)):=by show _=_;rw[hst.out];rfl
      clear hst hf;go_wp2_with fail;refine HC.out.mono ?_;rintro e w2 ⟨rfl,hb2⟩;have HB2:=Zhd (Zaa HB.out hb2);clear HC HB hb2 x0 x1 x2;go_wp2;go_ret;exact⟨Zci HK.out.symm,HB2.out⟩
    | false=>
      rw[hf]at hst HC;have HK:Hid (Zaw f 0 Zam=Zaw f (k+1) (Zam.drop (k+1))):=by show _=_;rw[hst.out];rfl
      clear hst hf;go_wp2_with fail;refine HC.out.mono ?_;rintro e w2 ⟨rfl,hb2⟩;have HB2:=Zhd (Zaa HB.out hb2);clear HC HB hb2 x0 x1 x2;go_wp2_with fail;go_roundw
      case rel=>exact⟨k+1,by omega,by go_num,HK,HB2⟩
      case measure=>simp[intOf];omega
  · obtain rfl:k=34:=by omega
    have HK:Hid (Zaw f 0 Zam= -1):=by
     show _=_;rw[HQ.out,Ybe (by rw[HL.out];exact Yag _)];rfl
    clear HQ;go_wp2;go_ret;exact⟨Zci HK.out.symm,HB.out⟩
theorem Zanh {w:World} {k n b g:Nat} {xs:List Value} (h:Rd w k (some ⟨b,0,none⟩) n xs) (hne:b≠g) (o:Nat) (v:Value):Rd (w.setCell ⟨g,o,none⟩ v) k (some ⟨b,0,none⟩) n xs:=
 ⟨h.1,fun hn=>by
  obtain⟨ad,e,hb,hx⟩:=h.2 hn;injection e with e
  subst e
  exact⟨_,rfl,by simpa using hb,fun j u hu=>by
   rw[Zag,World.cell?_setCell_other _ _ _ _ (by intro e';simp only[Addr.mk.injEq]at e';omega)]
   have:=hx j u hu
   rwa [Zag]at this⟩⟩
def Zaip (P:List ByteArray) (w:World) (e:Ending) (w':World):Prop:=
 ((Zjj P=none∧e= .returned (.tuple #[.agg #[.slice none 0 0, .bool false, .bool false], .bool false]))∨
  (∃ r b c,Zjj P=some r∧r∈Zam∧e= .returned (.tuple #[.agg #[.slice (some ⟨b,0,none⟩) r.path.length c, .bool r.one, .bool r.needed], .bool true])∧r.path.length≤c∧c≤maxLen∧Rd w' 1 (some ⟨b,0,none⟩) r.path.length (sv r.path)))∧Below w.heap.size w w'
theorem Zaqf (A:Option Addr) (c:Nat) (A2:Option Addr) (c2:Nat) (P:List ByteArray) (w:World) (hE:Env w) (hR:Znx w A) (hP:Rd w 1 A2 P.length (sv P)) (hpl:P.length≤100000) (hps:Shw P):
 Calls prog 60 #[.slice A 34 c, .slice A2 P.length c2] w (Zaip P w):=by
 obtain⟨w0,hw0⟩: ∃ w0,(w.alloc (.cells #[.slice A2 P.length c2] 34)).alloc (.cells #[.slice none 0 0, .bool false, .bool false] 106)=w0:=⟨_,rfl⟩;have hb0:Below w.heap.size w w0:=by rw[←hw0];exact((Yae _ _).alloc (Yag _) _).alloc (by simp) _
 have y0:w0.cell? ⟨w.heap.size,0,none⟩=some (.slice A2 P.length c2):=by
  rw[←hw0,World.cell?_alloc_lt _ _ _ (by simp),World.cell?_alloc_at _ _ _ _ rfl];rfl
 have z0: ∀ j,j<3→w0.cell? ⟨w.heap.size+1,j,none⟩=(#[Value.slice none 0 0, .bool false, .bool false]:Array Value)[j]?:=fun j hj=>by
  rw[←hw0,World.cell?_alloc_at _ _ _ _ (by simp)]
 have zf: ∀ j,w0.frozen? ⟨w.heap.size+1,j,none⟩=false:=fun j=>by
  rw[←hw0];simp
 have hsz:w0.heap.size=w.heap.size+2:=by rw[←hw0];simp
 obtain⟨wb,hwb⟩: ∃ wb,w.heap.size=wb:=⟨_,rfl⟩
 have HIx:=Zhd (Zagu (.pointer (some ⟨wb,0,none⟩)) (fun r=>Zbm r.path P) A c w0 (hR.below hb0) (fun W hbW r hr b c hc1 hc2 hrd=>by
  have hbw:=Zaa hb0 hbW;exact Zaki r b c wb A2 c2 P W (hE.below hbw) hr hrd ((hbW.cell (p:=⟨wb,0,none⟩) (by show wb<_;rw[hsz,hwb];omega)).trans (by rw[←hwb];exact y0)) (hP.below hbw) hpl hps))
 have HR:Hid (Znx w0 A):=hR.below hb0;have HB:=Zhd hb0;have HZ:=Zhd z0;have HZF:=Zhd zf;have HSZ:=Zhd hsz;have HWB:=Zhd hwb;have HX:Hid (Zjj P=Zam.find? fun r=>Zbm r.path P):=rfl
 have HFF:=Zhd (Zfb (f:=fun r=>Zbm r.path P) Zam 0)
 clear hE hR hP hps hb0 y0 z0 zf hsz;generalize Zaw (fun r=>Zbm r.path P) 0 Zam=ff at *
 go_enter func60,ntmps60;rcases HFF.out with⟨h1,h2⟩|⟨j,hj,h1,h2⟩
 · subst h1;have HN:Hid (Zjj P=none):=by show _=_;rw[HX.out,h2]
   clear h2 HX;go_wp2_with fail;refine HIx.out.mono ?_;rintro e w2 ⟨rfl,hb2⟩;have hlt:wb+1<w0.heap.size:=by rw[HSZ.out,HWB.out];omega
   have c0:w2.cell? ⟨wb+1,0,none⟩=some (.slice none 0 0):=(hb2.cell (p:=⟨wb+1,0,none⟩) hlt).trans (by rw[←HWB.out,HZ.out 0 (by omega)];rfl)
   have c1:w2.cell? ⟨wb+1,1,none⟩=some (.bool false):=(hb2.cell (p:=⟨wb+1,1,none⟩) hlt).trans (by rw[←HWB.out,HZ.out 1 (by omega)];rfl)
   have c2:w2.cell? ⟨wb+1,2,none⟩=some (.bool false):=(hb2.cell (p:=⟨wb+1,2,none⟩) hlt).trans (by rw[←HWB.out,HZ.out 2 (by omega)];rfl)
   have zf: ∀ o,w2.frozen? ⟨wb+1,o,none⟩=false:=fun o=>(hb2.frozen (p:=⟨wb+1,o,none⟩) hlt).trans (by rw[←HWB.out];exact HZF.out o)
   have hB:Hid (Below w.heap.size w w2):=Zaa HB.out hb2;clear HIx HFF HZ HZF HR hb2 HB;go_wp2;refine bodyPost_ret (v:= .tuple #[.agg #[.slice none 0 0, .bool false, .bool false], .bool false]) (by simp[results,results60,go_sem,c0,c1,c2]) rfl ⟨.inl ⟨HN.out,rfl⟩, ?_⟩
   repeat (first|exact hB.out|refine Below.setCell ?_ (by show w.heap.size≤wb+1;rw[HWB.out];omega) _)
 · have hlr:j<Zam.length:=hj;have HN:Hid (Zjj P=some Zam[j]):=by show _=_;rw[HX.out,h2]
   have hmem:=Yau hlr;have hj34:j<34:=by rw[Zif]at hj;exact hj
   rw[Ybj]at h1;subst h1;clear h2 HX hj;go_wp2_with fail;refine HIx.out.mono ?_;rintro e w2 ⟨rfl,hb2⟩;have hlt:wb+1<w0.heap.size:=by rw[HSZ.out,HWB.out];omega
   have c0:w2.cell? ⟨wb+1,0,none⟩=some (.slice none 0 0):=(hb2.cell (p:=⟨wb+1,0,none⟩) hlt).trans (by rw[←HWB.out,HZ.out 0 (by omega)];rfl)
   have c1:w2.cell? ⟨wb+1,1,none⟩=some (.bool false):=(hb2.cell (p:=⟨wb+1,1,none⟩) hlt).trans (by rw[←HWB.out,HZ.out 1 (by omega)];rfl)
   have c2:w2.cell? ⟨wb+1,2,none⟩=some (.bool false):=(hb2.cell (p:=⟨wb+1,2,none⟩) hlt).trans (by rw[←HWB.out,HZ.out 2 (by omega)];rfl)
   have zf: ∀ o,w2.frozen? ⟨wb+1,o,none⟩=false:=fun o=>(hb2.frozen (p:=⟨wb+1,o,none⟩) hlt).trans (by rw[←HWB.out];exact HZF.out o)
   have hB:Hid (Below w.heap.size w w2):=Zaa HB.out hb2;obtain⟨B,O,b,cc,rfl,hab,hadd,hc1,hc2,hrd,x0,x1,x2⟩:=(HR.out.below hb2).one hlr;have hrl:=Zig _ hmem;obtain⟨g0,hg0,hrd0⟩:=hrd.2 (by omega)
   have hbb:b<w2.heap.size:=by injection hg0 with e;subst e;exact hrd0.1
   have hbne:b≠wb+1:=by
    rintro rfl;have hc:=hrd0.2 0 _ (Zjk (by omega))
    injection hg0 with e
    subst e;rw[Zag,c0]at hc;cases hc
   have HRD:Hid (Rd w2 1 (some ⟨b,0,none⟩) Zam[j].path.length (sv Zam[j].path)):=hrd;have HC1:=Zhd hc1;have HC2:=Zhd hc2;have HBN:=Zhd hbne;clear HIx HFF HZ HZF HR hb2 HB hrd hrd0 hg0 hc1 hc2 hrl hbne;generalize Zam[j]=r at *;go_wp2;refine bodyPost_ret (v:= .tuple #[.agg #[.slice (some ⟨b,0,none⟩) r.path.length cc, .bool r.one, .bool r.needed], .bool true]) (by simp[results,results60,go_sem,c0,c1,c2]) rfl ⟨.inr ⟨r,b,cc,HN.out,hmem,rfl,HC1.out,HC2.out, ?_⟩, ?_⟩
   · exact Zanh (Zanh (Zanh HRD.out HBN.out _ _) HBN.out _ _) HBN.out _ _
   · repeat (first|exact hB.out|refine Below.setCell ?_ (by show w.heap.size≤wb+1;rw[HWB.out];omega) _)
theorem Rd.take {w:World} {A:Option Addr} {P:List ByteArray} (h:Rd w 1 A P.length (sv P)) {n:Nat} (hn:n≤P.length):Rd w 1 A (P.take n).length (sv (P.take n)):=by
 refine⟨by rw[Zij];simp,fun h0=> ?_⟩
 have hl:(P.take n).length=n:=by rw[Yaf];omega
 obtain⟨ad,e,hb,hx⟩:=h.2 (by omega)
 refine⟨ad,e,hb,fun j u hu=>hx j u ?_⟩
 have hj:j<n:=by have:=(Yba.1 hu).1;rw[Zij,hl]at this;exact this
 rw[←hu,Zjk (by omega:j<P.length),Zjk (by omega:j<(P.take n).length),Ycs]
theorem Znq {P:List ByteArray} (h:Shw P) (n:Nat):Shw (P.take n):=fun s hs=>h s (Yew hs)
theorem Zzp (r:Rule) (b c pn pp q:Nat) (A2:Option Addr) (c2:Nat) (P:List ByteArray) (w:World) (hE:Env w) (hr:r∈Zam) (hrc:r.path.length≤c) (_hcm:c≤maxLen) (hR:Rd w 1 (some ⟨b,0,none⟩) r.path.length (sv r.path)) (hn:w.cell? ⟨pn,0,none⟩=some (.int .i64 q)) (hc1:w.cell? ⟨pp,0,none⟩=some (.slice A2 P.length c2)) (hP:Rd w 1 A2 P.length (sv P)) (hq:P.length=q+1) (hpc:P.length≤c2) (_hc2:c2≤maxLen) (hpl:P.length≤100000) (hps:Shw P):
 Calls prog 103 #[.agg #[.slice (some ⟨b,0,none⟩) r.path.length c, .bool r.one, .bool r.needed], .pointer (some ⟨pn,0,none⟩), .pointer (some ⟨pp,0,none⟩)] w fun e w'=>e= .returned (.bool (Zmb P r))∧Below w.heap.size w w':=by
 obtain⟨w0,hw0⟩: ∃ w0,w.alloc (.cells #[.slice (some ⟨b,0,none⟩) r.path.length c, .bool r.one, .bool r.needed] 106)=w0:=⟨_,rfl⟩;unfold maxLen at _hcm _hc2;have hrl:=Zig r hr;have hrs:=Zmi r hr;have hb0:Below w.heap.size w w0:=by rw[←hw0];exact(Yae _ _).alloc (Yag _) _
 have HX:Hid (Zmb P r=(decide (r.path.length=P.length)&&Zbm (r.path.take q) (P.take q)&&Zjx (r.path.getD q ⟨#[]⟩))):=by
  show _=_;unfold Zmb;rw[show P.length-1=q by omega]
 have x0:w0.cell? ⟨w.heap.size,0,none⟩=some (.slice (some ⟨b,0,none⟩) r.path.length c):=by rw[←hw0,World.cell?_alloc_at _ _ _ _ rfl];rfl
 have n0:w0.cell? ⟨pn,0,none⟩=some (.int .i64 q):=(hb0.cell (p:=⟨pn,0,none⟩) (Lib.lt_of_cell hn)).trans hn;have y0:w0.cell? ⟨pp,0,none⟩=some (.slice A2 P.length c2):=(hb0.cell (p:=⟨pp,0,none⟩) (Lib.lt_of_cell hc1)).trans hc1;have HB:=Zhd hb0;have X0:=fun m os=>cell_regrown x0 m os
 have N0:=fun m os=>cell_regrown n0 m os
 have Y0:=fun m os=>cell_regrown y0 m os
 have hqi:(q:Int)≤100000:=by omega
 have hqp:(q:Int)≤(P.length:Int):=by omega
 have hqc2:(q:Int)≤(c2:Int):=by omega
 by_cases hl:r.path.length=P.length
 · have hlb:((r.path.length:Int)==(q:Int)+1)=true:=by rw[beq_iff_eq];omega
   have hqr:q<r.path.length:=by omega
   have hqri:(q:Int)<(r.path.length:Int):=by omega
   have hqc:(q:Int)≤(c:Int):=by omega
   have hM:=Zka (some ⟨b,0,none⟩) c (r.path.take q) A2 c2 (P.take q) w0 (hE.below hb0) ((hR.below hb0).take (by omega)) ((hP.below hb0).take (by omega)) (by rw[Yaf];omega) (by rw[Yaf];omega) (Znq hrs _) (Znq hps _)
   rw[show(r.path.take q).length=q by rw[Yaf];omega,show(P.take q).length=q by rw[Yaf];omega]at hM
   have hm: ∀ m os,Calls prog 101 #[.slice (some ⟨b,0,none⟩) q c, .slice A2 q c2] (grow (redrawn w0 m) os) fun e w'=>e= .returned (.bool (Zbm (r.path.take q) (P.take q)))∧ ∃ p:Regrown,w'=grow (redrawn w0 p.d) p.os:=fun m os=>by
    have hbr:=below_regrown w0 m os;have:=Zka (some ⟨b,0,none⟩) c (r.path.take q) A2 c2 (P.take q) (grow (redrawn w0 m) os) ((hE.below hb0).below hbr) (((hR.below hb0).below hbr).take (by omega)) (((hP.below hb0).below hbr).take (by omega)) (by rw[Yaf];omega) (by rw[Yaf];omega) (Znq hrs _) (Znq hps _)
    rw[show(r.path.take q).length=q by rw[Yaf];omega,show(P.take q).length=q by rw[Yaf];omega]at this
    exact Calls.regrown_of this
   have HX2:Hid (Zmb P r=(Zbm (r.path.take q) (P.take q)&&Zjx r.path[q])):=by
    show _=_;rw[HX.out,Yal hl,Yaq,Yaj hqr];rfl
   obtain⟨B',O',hA',-,-,z0⟩:=(hR.below hb0).strAt hqr;injection hA' with hA'
   injection hA' with e1 e2
   subst e1 e2;rw[Ybj]at z0;have Z0:=fun m os=>cell_regrown z0 m os
   have hp: ∀ m os,Calls prog 104 #[.string r.path[q], .string ⟨#[36]⟩] (grow (redrawn w0 m) os) fun e w'=>e= .returned (.bool (Zjx r.path[q]))∧ ∃ p:Regrown,w'=grow (redrawn w0 p.d) p.os:=fun m os=>
    (Tryz.strings_HasPrefix r.path[q] ⟨#[36]⟩ (grow (redrawn w0 m) os)).mono fun _ _ ⟨he,hm⟩=>⟨he,⟨m,os⟩,hm⟩
   clear hE hR hP hps hn hc1 hb0 x0 n0 y0 z0 hM HX hq hl hrl hrs;generalize Zbm (r.path.take q) (P.take q)=mb at *;generalize Zjx r.path[q]=tb at *;generalize r.path[q]=s at *;cases mb with
   | false=>
     have HK:Hid (Zmb P r=false):=by show _=_;rw[HX2.out];rfl
     clear HX2 hp;go_enter func103,ntmps103;go_wp2_with fail;refine wp_region_quiet_below (by kernel_rfl) (by kernel_rfl) ?_
     repeat (go_big_quiet_step ((go_at_call 101;exact hm _ _)))
     refine wpQuiet_nil ?_;intro _ hw';obtain⟨⟨dq,osq⟩,hw''⟩:=hw';subst hw'';go_wp2_with fail;go_ret;exact⟨Zaj HK.out.symm,Zaa HB.out (below_regrown w0 dq osq)⟩
   | true=>
     have HK:Hid (Zmb P r=tb):=by show _=_;rw[HX2.out];rfl
     clear HX2;go_enter func103,ntmps103;go_wp2_with fail;refine wp_region_quiet_below (by kernel_rfl) (by kernel_rfl) ?_
     repeat (go_big_quiet_step ((first|(go_at_call 101;exact hm _ _)|(go_at_call 104;exact hp _ _))))
     refine wpQuiet_nil ?_;intro _ hw';obtain⟨⟨dq,osq⟩,hw''⟩:=hw';subst hw'';go_wp2_with fail;go_ret;exact⟨Zaj HK.out.symm,Zaa HB.out (below_regrown w0 dq osq)⟩
 · have hlb:((r.path.length:Int)==(q:Int)+1)=false:=by rw[Yai];omega
   have HK:Hid (Zmb P r=false):=by show _=_;rw[HX.out,Yah hl];rfl
   clear hE hR hP hps hn hc1 hb0 x0 n0 y0 HX hq hl hrl hrs;go_enter func103,ntmps103;go_wp2_with fail;refine wp_region_quiet_below (by kernel_rfl) (by kernel_rfl) ?_
   repeat (go_big_quiet_step (fail))
   refine wpQuiet_nil ?_;intro _ hw';obtain⟨⟨dq,osq⟩,hw''⟩:=hw';subst hw'';go_wp2_with fail;go_ret;exact⟨Zaj HK.out.symm,Zaa HB.out (below_regrown w0 dq osq)⟩
theorem Zaco (A:Option Addr) (c:Nat) (A2:Option Addr) (c2:Nat) (P:List ByteArray) (w:World) (hE:Env w) (hR:Znx w A) (hP:Rd w 1 A2 P.length (sv P)) (h1:1≤P.length) (hpc:P.length≤c2) (hc2:c2≤maxLen) (hpl:P.length≤100000) (hps:Shw P):
 Calls prog 61 #[.slice A 34 c, .slice A2 P.length c2] w fun e w'=>e= .returned (.int .i64 (Zgq P))∧Below w.heap.size w w':=by
 obtain⟨q,hq⟩: ∃ q,P.length=q+1:=⟨P.length-1,by omega⟩
 obtain⟨wb,hwb⟩: ∃ wb,w.heap.size=wb:=⟨_,rfl⟩;obtain⟨w0,hw0⟩: ∃ w0,(w.alloc (.cells #[.slice A2 P.length c2] 34)).alloc (.cells #[.int .i64 q] 3)=w0:=⟨_,rfl⟩;have hb0:Below w.heap.size w w0:=by rw[←hw0];exact((Yae _ _).alloc (Yag _) _).alloc (by simp) _
 have hsz:w0.heap.size=wb+2:=by rw[←hw0,←hwb];simp
 have y0:w0.cell? ⟨wb,0,none⟩=some (.slice A2 P.length c2):=by
  rw[←hw0,←hwb,World.cell?_alloc_lt _ _ _ (by simp),World.cell?_alloc_at _ _ _ _ rfl];rfl
 have n0:w0.cell? ⟨wb+1,0,none⟩=some (.int .i64 q):=by
  rw[←hw0,World.cell?_alloc_at _ _ _ _ (by simp[hwb])];rfl
 have HIx:=Zhd (Zagv (.pointer (some ⟨wb+1,0,none⟩)) (.pointer (some ⟨wb,0,none⟩)) (Zmb P) A c w0 (hR.below hb0) (fun W hbW r hr b c hc1 hc3 hrd=>by
  have hbw:=Zaa hb0 hbW;exact Zzp r b c (wb+1) wb q A2 c2 P W (hE.below hbw) hr hc1 hc3 hrd ((hbW.cell (p:=⟨wb+1,0,none⟩) (by show wb+1<_;rw[hsz];omega)).trans n0) ((hbW.cell (p:=⟨wb,0,none⟩) (by show wb<_;rw[hsz];omega)).trans y0) (hP.below hbw) hq hpc hc2 hpl hps))
 have HB:=Zhd hb0;have HQ:Hid ((P.length:Int)-1=(q:Int)):=by show _=_;omega
 have HA:=Zhd (Zvn (f:=Zmb P) Zam 0);have HU:Hid (Zgq P=if Zam.any (Zmb P)then 2 else 3):=rfl
 have HW:=Zhd hw0;have HWB:=Zhd hwb;clear hE hR hP hps hb0 hsz y0 n0 hw0 hwb hq
 have hlo: -1≤Zaw (Zmb P) 0 Zam:=by
  rcases Zfb (f:=Zmb P) Zam 0 with⟨h,-⟩|⟨j,-,h,-⟩
  · rw[h];decide
  · rw[h];omega
 generalize Zaw (Zmb P) 0 Zam=ff at *;generalize Zam.any (Zmb P)=an at *
 have hCt:Hid (Calls prog 102 #[.slice A 34 c, .func (.func 103) #[] #[.pointer (some ⟨wb+1,0,none⟩), .pointer (some ⟨wb,0,none⟩)]] w0 fun e w'=>e= .returned (.bool an)∧Below w0.heap.size w0 w'):=by
  go_enter func102,ntmps102;go_wp2_with fail;refine HIx.out.mono ?_;rintro e w2 ⟨rfl,hb2⟩;go_wp2;go_ret;exact⟨Zaj HA.out,hb2⟩
 clear HIx HA;go_enter func61,ntmps61;go_wp2_with fail;rw[HQ.out,HWB.out,HW.out];refine hCt.out.mono ?_;rintro e w2 ⟨rfl,hb2⟩;have hB2:=Zhd (Zaa HB.out hb2);clear hCt hb2;cases an with
 | true=>
   go_wp2;go_ret;exact⟨Zci HU.out.symm,by have:=hB2.out;rwa [HWB.out]at this⟩
 | false=>
   go_wp2;go_ret;exact⟨Zci HU.out.symm,by have:=hB2.out;rwa [HWB.out]at this⟩
def Zdh (P:List ByteArray) (k:Nat):List ByteArray:=((Zam.take k).filter (Zabp P)).map Zalk
theorem Zyx (P:List ByteArray) {k:Nat} (h:k<Zam.length):Zdh P (k+1)=if Zabp P Zam[k]then Zdh P k++ [Zalk Zam[k]]else Zdh P k:=by
 unfold Zdh;rw[Yaw h,Yco,Ybu];cases hn:Zabp P Zam[k]<;>simp[hn]
theorem Zmd (P:List ByteArray) (k:Nat):(Zdh P k).length≤k:=by
 unfold Zdh;rw[Yaz];exact Yas (Yce _ _) (by rw[Yaf];omega)
theorem Zmc (P:List ByteArray):Zdh P 34=Zea P:=by
 unfold Zdh Zea;rw[←Zif,Ybz]
theorem Zalz (A:Option Addr) (c:Nat) (A2:Option Addr) (c2:Nat) (P:List ByteArray) (w:World) (hE:Env w) (hR:Znx w A) (hP:Rd w 1 A2 P.length (sv P)) (hpl:P.length≤100000) (hps:Shw P):
 Calls prog 105 #[.slice A 34 c, .slice A2 P.length c2] w (Zair w (Zea P)):=by
 obtain⟨i0,hi,hz0,hz1,hz2⟩:=info_parts Zdz;have HR:=Zhd hR;have HE:=Zhd hE;have HP:=Zhd hP;have HPS:=Zhd hps;have HL:=Zhd Zif;clear hR hE hP hps;go_enter func105,ntmps105;go_wp2;go_loopw [5,11] (fun v vi wr=> ∃ k:Nat,k≤34∧vi= .int .i64 k∧Hid (wr.ownsRow w.heap.size 9 1 v (Zdh P k).length (sv (Zdh P k)))∧Hid (Below w.heap.size w wr)) (fun _ vi _=>34-(intOf vi).toNat)
 case atStart=>exact⟨0,Yao _,rfl,World.ownsRow_nil _ _ _ _,Yae _ _⟩
 case round=>
  obtain⟨k,hk,rfl,HO,HB⟩:=hrel;by_cases hlt:k<34
  · have hlr:k<Zam.length:=by rw[HL.out];exact hlt
    obtain⟨B,O,b,cc,rfl,hab,hadd,hc1,hc3,hrd,x0,x1,x2⟩:=(HR.out.below HB.out).one hlr;have hmem:=Yau hlr;have hrl:=Zig _ hmem;have hrs:=Zmi _ hmem;have hst:=Zyx P hlr;have hnl:=Zmd P k;unfold maxLen at hc3;obtain⟨q,hq⟩: ∃ q,Zam[k].path.length=q+1:=⟨Zam[k].path.length-1,by omega⟩
    have HN:Hid (Zabp P Zam[k]=(Zam[k].needed&&Zbm (Zam[k].path.take q) P)):=by show _=_;unfold Zabp;rw[hq,Yem]
    have hqr:q<Zam[k].path.length:=by omega
    have HW:Hid (Zalk Zam[k]=Zam[k].path[q]'hqr):=by
     show _=_;unfold Zalk;rw[show Zam[k].path.length-1=q by omega,Yaq,Yaj hqr];rfl
    have hqi:(q:Int)<(Zam[k].path.length:Int):=by omega
    have hqc:(q:Int)≤(cc:Int):=by omega
    have hq0:(0:Int)≤(q:Int):=by omega
    have HQ:Hid ((Zam[k].path.length:Int)-1=(q:Int)):=by show _=_;omega
    have HST:=Zhd hst;obtain⟨wo,hwo⟩: ∃ wo,wr.alloc (.cells #[.slice (some ⟨b,0,none⟩) Zam[k].path.length cc, .bool Zam[k].one, .bool Zam[k].needed] 106)=wo:=⟨_,rfl⟩;have hbo:Below wr.heap.size wr wo:=by rw[←hwo];exact(Yae _ _).alloc (Yag _) _
    have y0:wo.cell? ⟨wr.heap.size,0,none⟩=some (.slice (some ⟨b,0,none⟩) Zam[k].path.length cc):=by rw[←hwo,World.cell?_alloc_at _ _ _ _ rfl];rfl
    have y2:wo.cell? ⟨wr.heap.size,2,none⟩=some (.bool Zam[k].needed):=by rw[←hwo,World.cell?_alloc_at _ _ _ _ rfl];rfl
    have hbw:=Zaa HB.out hbo;have hM:=Zka (some ⟨b,0,none⟩) cc (Zam[k].path.take q) A2 c2 P wo (HE.out.below hbw) ((hrd.below hbo).take (by omega)) (HP.out.below hbw) (by rw[Yaf];omega) hpl (Znq hrs _) HPS.out
    rw[show(Zam[k].path.take q).length=q by rw[Yaf];omega]at hM
    have HM:=Zhd hM;obtain⟨B',O',hA',-,-,z0⟩:=(hrd.below hbo).strAt hqr;injection hA' with hA'
    injection hA' with e1 e2
    subst e1 e2;rw[Ybj]at z0;have HZ:=Zhd z0;have HO2:=Zhd (Zah HO.out hbo);have HB2:=Zhd hbw;rw[hq]at x0 y0 hwo;have hqi2:(q:Int)<(q:Int)+1:=by omega
    have hq10:(q:Int)≤10:=by omega
    clear hM hst z0 hbw HO hrd hrs hmem hc1 hc3 hq hbo hqi HQ;generalize Zbm (Zam[k].path.take q) P=mb at *;generalize Zam[k].path[q]=s at *;generalize Zam[k]=r at *;clear hrl hqr;obtain⟨wrb,hwrb⟩: ∃ wrb,wr.heap.size=wrb:=⟨_,rfl⟩;rw[hwrb]at y0 y2;have hwl:wrb<wo.heap.size:=by rw[←hwo,←hwrb];simp
    cases hrn:r.needed with
    | false=>
      rw[hrn]at x2 y2 HN hwo;have HF:Hid (Zdh P (k+1)=Zdh P k):=by show _=_;rw[HST.out,HN.out];rfl
      have HWO:=Zhd hwo;clear HN HST HM HZ HW hrn hwo y0 y2 hwl;subst hwrb;go_wp2_with fail;go_roundw
      case rel=>exact⟨k+1,by omega,by go_num,by show World.ownsRow _ _ _ _ _ _ _;rw[HF.out,HWO.out];exact HO2.out,by rw[HWO.out];exact HB2⟩
      case measure=>simp[intOf];omega
    | true=>
      rw[hrn]at x2 y2 HN hwo;clear hrn;cases mb with
      | false=>
        have HF:Hid (Zdh P (k+1)=Zdh P k):=by show _=_;rw[HST.out,HN.out];rfl
        clear HN HST HZ HW;go_wp2_with fail;refine HM.out.mono ?_;rintro e w2 ⟨rfl,hb2⟩;have HO3:=Zhd (Zah HO2.out hb2);have HB3:=Zhd (Zaa HB2.out hb2);clear HM HO2 HB2 hb2;go_wp2_with fail;go_roundw
        case rel=>exact⟨k+1,by omega,by go_num,by show World.ownsRow _ _ _ _ _ _ _;rw[HF.out];exact HO3.out,HB3⟩
        case measure=>simp[intOf];omega
      | true=>
        have HF:Hid (Zdh P (k+1)=Zdh P k++ [s]):=by show _=_;rw[HST.out,HN.out,HW.out];rfl
        clear HN HST HW;go_wp2_with fail;refine HM.out.mono ?_;rintro e w2 ⟨rfl,hb2⟩;have HO3:=Zah HO2.out hb2;have HB3:=Zaa HB2.out hb2;have v0:w2.cell? ⟨wrb,0,none⟩=some (.slice (some ⟨b,0,none⟩) (q+1) cc):=(hb2.cell (p:=⟨wrb,0,none⟩) hwl).trans y0;have vz:w2.cell? ⟨b,q,none⟩=some (.string s):=(hb2.cell (p:=⟨b,q,none⟩) (Lib.lt_of_cell HZ.out)).trans HZ.out;generalize Zdh P k=nd at *;clear HM HO2 HB2 hb2 y0 y2 hwo x0 x1 x2 HZ;go_wp2_with (at_builtin;refine Zfq rfl _ _ 34 rfl w w2 9 i0 _ 1 16 underlying34 hi hz0 hz1 hz2 rfl (by decide) (by decide) HO3 HB3 rfl 1 1 [.string s] rfl rfl (by simp;rfl) (by omega) ?_;intro v' w' hown' hb')
        go_roundw
        case rel=>exact⟨k+1,by omega,by go_num,by show World.ownsRow _ _ _ _ _ _ _;rw[HF.out];exact Zfh hown',hb'⟩
        case measure=>simp[intOf];omega
  · obtain rfl:k=34:=by omega
    have HF:=Zhd (Zmc P);have HOF:=HO.out;rw[HF.out]at HOF;obtain⟨A',c',rfl,hc1,hc3,hrd,hnz⟩:=Zcv HOF;have K:Hid (Zair w (Zea P) (.returned (.slice A' (Zea P).length c')) wr):=⟨A',c',rfl,hc1,hc3,hrd,hnz,HB.out⟩;have HK2:=Zhd (show(Zdh P 34).length=(Zea P).length by rw[HF.out])
    clear HOF HO hrd hnz hc1 hc3 HF;go_wp2;go_ret;exact K.out
theorem Zahw {w w':World} {v:Value} (h:Pl w' w.heap.size 106 3 v Znl): ∃ A c,v= .slice A 34 c∧34≤c∧c≤maxLen∧Znx w' A:=by
 obtain⟨A,c,e,a,b,r,-⟩:=h.read;rw[Zuh]at e a;exact⟨A,c,e,a,b,r⟩
end Go.Proofs.Zq
