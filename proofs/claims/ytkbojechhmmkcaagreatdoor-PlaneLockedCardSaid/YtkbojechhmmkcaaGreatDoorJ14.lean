import Derived.Deep.CutBlock
import Derived.Deep.DeepCutAuto
import Derived.Test.YtkbojechhmmkcaaGreatDoorJ13
set_option linter.unusedVariables false
set_option linter.unusedSimpArgs false
set_option maxHeartbeats 8000000
set_option maxRecDepth 100000
namespace Sch
open Go Go.Lib Adr Mtr Tre
def Zfu:List (List ByteArray)→List Line→Prop
 | [],[]=>True
 |q::S,l::L=>(Zbx l=true∧l.depth=((q.length-1:Nat):Int)∧q.getLastD ⟨#[]⟩=l.word)∧Zfu S L
 | [],_::_=>False
 |_::_,[]=>False
theorem Zxx: ∀ {S:List (List ByteArray)} {L:List Line},Zfu S L→S.length=L.length
 | [],[],_=>rfl
 |_::_,_::_,h=>by rw[Ybf,Ybf,Zxx h.2]
 | [],_::_,h=>h.elim
 |_::_,[],h=>h.elim
theorem Zgi: ∀ {S T:List (List ByteArray)} {L M:List Line},Zfu S L→Zfu T M→Zfu (S++T) (L++M)
 | [],_,[],_,_,k=>k
 |_::_,_,_::_,_,h,k=>⟨h.1,Zgi h.2 k⟩
 | [],_,_::_,_,h,_=>h.elim
 |_::_,_,[],_,h,_=>h.elim
theorem Zhr: ∀ {S:List (List ByteArray)} {L:List Line} (n:Nat),Zfu S L→Zfu (S.take n) (L.take n)
 | [],[],n,_=>by simp[Zfu]
 |_::_,_::_,0,_=>trivial
 |_::_,_::_,n+1,h=>⟨h.1,Zhr n h.2⟩
 | [],_::_,_,h=>h.elim
 |_::_,[],_,h=>h.elim
theorem Zhq: ∀ {S:List (List ByteArray)} {L:List Line} (n:Nat),Zfu S L→Zfu (S.drop n) (L.drop n)
 | [],[],n,_=>by simp[Zfu]
 |_::_,_::_,0,h=>h
 |_::_,_::_,n+1,h=>Zhq n h.2
 | [],_::_,_,h=>h.elim
 |_::_,[],_,h=>h.elim
theorem Zlp (q:List ByteArray) (h:q≠ []):q.dropLast++ [q.getLastD ⟨#[]⟩]=q:=by
 rw[Ybx,List.getLast?_eq_some_getLast h];exact List.dropLast_concat_getLast h
theorem Zaej: ∀ {S:List (List ByteArray)} {L:List Line} {p:List ByteArray},Zfu S L→(∀ q∈S,q≠ []∧pLt p q∧(q.dropLast∈S∨q.dropLast=p∨pLt q.dropLast p))→S.Pairwise pLt→
 Zcr p L=true∧Zjc p L=true∧Zbu p L=S
 | [],[],_,_,_,_=>⟨rfl,rfl,rfl⟩
 | [],_::_,_,h,_,_=>h.elim
 |_::_,[],_,h,_,_=>h.elim
 | q::S,l::L,p,h,hq,hs=>by
   obtain⟨⟨h1,h2,h3⟩,hf⟩:=h;obtain⟨hs1,hs2⟩:=Ycd.1 hs;obtain⟨hne,hpq,hpre⟩:=hq q (by simp)
   have hpush:=Zlp q hne;have hlt:pLt q.dropLast q:=by
    have:=Zld q.dropLast (q.getLastD ⟨#[]⟩) []
    rwa [hpush]at this
   have hpre2:q.dropLast=p∨pLt q.dropLast p:=by
    rcases hpre with h|h
    · rcases Yax.1 h with e|e
      · rw[e]at hlt;exact absurd hlt (Zbz _)
      · exact absurd (Zcb hlt (hs1 _ e)) (Zbz _)
    · exact h
   obtain⟨s,hps⟩: ∃ s,p=q.dropLast++s:=by
    rcases hpre2 with e|e
    · exact⟨[],by rw[e];simp⟩
    · exact Zajc e (.inl (by rw[hpush];exact hpq))
   have hdl:q.dropLast.length=q.length-1:=by simp
   have hdn:l.depth.toNat=q.dropLast.length:=by rw[h2,hdl];simp
   have hnxt:nxt p l=q:=by
    unfold nxt;rw[hdn,hps,Ydt,←h3,hpush];rfl
   have hle:l.depth≤(p.length:Int):=by
    rw[h2,←hdl,hps,Yak];omega
   have hsrt:Zacg p l=true:=by
    unfold Zacg;cases s with
    | nil=>
      rw[Ybg]at hps;rw[Yal (p:=l.depth=(p.length:Int)) (by rw[h2,←hdl,hps])];rfl
    | cons x s=>
      have hx:pLt (x::s) [q.getLastD ⟨#[]⟩]:=by
       rw[hps]at hpq
       conv at hpq=>rhs;rw[←hpush]
       exact Zfi.1 hpq
      have hxl:x.toList<l.word.toList:=by
       rcases Zel.1 hx with h|⟨-,h⟩
       · rw[h3]at h;exact h
       · exact absurd h (Zja _)
      have hg:p.getD l.depth.toNat ⟨#[]⟩=x:=by
       rw[hdn,hps,Yaq,Ybi (Yag _)];simp
      rw[hg,Proofs.bytesLess_eq,Yal hxl,Bool.or_true]
   have ih:=Zaej (S:=S) (L:=L) (p:=q) hf (fun x hx=>by
    obtain⟨a,b,c⟩:=hq x (Ych _ hx);refine⟨a,hs1 x hx, ?_⟩;rcases c with c|c|c
    · rcases Yax.1 c with e|e
      · exact .inr (.inl e)
      · exact .inl e
    · exact .inr (.inr (by rw[c];exact hpq))
    · exact .inr (.inr (Zcb c hpq))) hs2
   obtain⟨i1,i2,i3⟩:=ih;refine⟨?_, ?_, ?_⟩
   · show(Zbx l&&decide (l.depth≤(p.length:Int))&&Zcr (nxt p l) L)=true;rw[h1,Yal hle,hnxt,i1];rfl
   · show(Zacg p l&&Zjc (nxt p l) L)=true;rw[hsrt,hnxt,i2];rfl
   · show nxt p l::Zbu (nxt p l) L=q::S;rw[hnxt,i3]
def Zzo (S:List (List ByteArray)):Prop:=S.Pairwise pLt∧ ∀ q∈S,q≠ []∧(q.dropLast∈S∨q.dropLast= [])
theorem Zaxz (q:List ByteArray):q= []∨pLt [] q:=by
 cases q with
 |nil=>exact .inl rfl
 |cons a l=>exact .inr (Zabt a l)
theorem Zkd {S:List (List ByteArray)} {L:List Line} (hf:Zfu S L) (hs:Zzo S) (hl:L.length≤200):Zab L=true∧Zaf L=S:=by
 obtain⟨h1,h2,h3⟩:=Zaej (p:= []) hf (fun q hq=>by
  obtain⟨a,b⟩:=hs.2 q hq;refine⟨a, ?_, ?_⟩
  · rcases Zaxz q with e|e
    · exact absurd e a
    · exact e
  · rcases b with b|b
    · exact .inl b
    · exact .inr (.inl b)) hs.1
 exact⟨by rw[Zsd,Yal hl,h1,h2];rfl,h3⟩
theorem Zya: ∀ {L:List Line} {p:List ByteArray},Zcr p L=true→Zfu (Zbu p L) L
 | [],_,_=>trivial
 | l::r,p,h=>by
   have h:(Zbx l&&decide (l.depth≤(p.length:Int))&&Zcr (nxt p l) r)=true:=h;rw[Yat,Yat,Yap]at h;obtain⟨⟨h1,h2⟩,h3⟩:=h;have d:=Zed h1;have hn:=Zwh d.1 h2;refine⟨⟨h1,by omega, ?_⟩,Zya h3⟩
   unfold nxt;rw[Ybx,Ycr];rfl
theorem Zcx {L:List Line} (hr:Zab L=true):Zzo (Zaf L)∧Zfu (Zaf L) L:=by
 obtain⟨-,hd,hs⟩:=Zac hr;refine⟨⟨(Zki hd hs).2,fun q hq=> ?_⟩,Zya hd⟩
 obtain⟨i,hi,rfl⟩:=Zbs.1 hq;have hl:=Zbt hd hi;refine⟨fun e=>by rw[e]at hl;simp at hl, ?_⟩
 rcases Ybr 1 (pa L i).length with h|h
 · left
   obtain⟨m,hm,e⟩:=Zoh hd hi (q:=(pa L i).length-1) (by omega) (by omega)
   rw[←Ydk]at e;exact Zbs.2 ⟨m,by omega,e⟩
 · right
   have:(pa L i).length=1:=by omega
   obtain⟨a,e⟩:=Yek.1 this;rw[e];rfl
theorem pa_ne {L:List Line} (hr:Zab L=true) {i:Nat} (hi:i<L.length):pa L i≠ []:=fun e=>by
 have:=Zbt (Zac hr).2.1 hi;rw[e]at this;simp at this
end Sch
namespace Go.Proofs.Zq
open Tryz
open Go Go.RowKit Tre
theorem Zjo (w:World) (o:Obj):Below w.heap.size w (w.alloc o):=(Yae _ _).alloc (Yag _) _
theorem Zapj (w:World) (cs:Array Value) (T:TypeId): ∀ j z,cs.toList[j]?=some z→(w.alloc (.cells cs T)).cell? ((⟨w.heap.size,0,none⟩:Addr).add j)=some z:=fun j z hz=>by
 rw[Zag,Ybj,World.cell?_alloc_at _ _ _ _ rfl];simpa using hz
theorem Zzm {P:Program} {ops:Array Oper} {o:Oper} {a:Act} {K:Act→World→Prop} {Q:Exit→Act→World→Prop} {E:Prop} (hgd:o.guard=none) (s x:Operand) (t:TypeId)
 (ho:o.op= .call {callee:= .builtin .append,args:= #[s,x],argTypes:= #[t,t]}) (e:TypeId) (i:TypeInfo) (z:Value) (ht:P.underlying t=some (.slice e)) (hi:P.info? e=some i) (hz:i.zero=some z)
 (hsize:i.size=1) (hby:i.bytes=16) (hzs:z.cells.size=1) {w0 w:World} {v:Value} {L:List ByteArray} (hs:a.eval s=v) (hown:w.ownsRow w0.heap.size e 1 v L.length (sv L)) (hb:Below w0.heap.size w0 w) (hL:L.length≤1000000)
 (u:ByteArray) (ad:Addr) (c:Nat) (hx:a.eval x= .slice (some ad) 1 c) (hc:w.cell? ad=some (.string u))
 (h: ∀ g c' w',Pv w' (.slice (some ⟨g,0,none⟩) (L.length+1) c') (L++ [u])→Below w0.heap.size w0 w'→K (a.put o.dst (.slice (some ⟨g,0,none⟩) (L.length+1) c')) w'):
 if Region.wanted o (yielded ops a.tmps)=true then Oper.wp P o a w K Q else E:=by
 refine step_append_lies w hgd s x t ho w0.heap.size e i z 1 16 ht hi hz hsize hby hzs (by decide) v L.length (sv L) hs hown ad 1 c [.string u] hx rfl ?_ ?_ (by decide) (by unfold maxLen;omega) (by omega) hb.size w.heap.size rfl ?_
 · intro j y hy;obtain⟨rfl,rfl⟩:j=0∧y= .string u:=by
    have:=(Yba.1 hy).1;simp at this;subst this;simp at hy;exact⟨rfl,hy.symm⟩
   have hs:=World.cell?_spot hc;obtain⟨B,O,sp⟩:=ad;obtain rfl:sp=none:=hs;rw[Zag];exact hc
 · intro y hy;rw[Ybt.1 hy];rfl
 · intro g cap w' h2 h3 h4 h5;have h2':=h2;have hl:(L++ [u]).length=L.length+1:=by simp
   refine h g cap w' ?_ (hb.grown h3 hb.size fun q hq=>(hown.lt q hq).1)
   rw[show sv L++ [Value.string u]=sv (L++ [u]) by rw[Zauc];rfl]at h2'
   obtain⟨A,c',e',h6,h7,h8,-⟩:=Zcv h2';injection e' with e1 e2 e3
   subst e1 e3;exact⟨g,cap,by rw[hl],by rw[hl];exact h6,h7,by rw[hl];omega,by rw[hl];exact h8⟩
theorem Zaoc {P:Program} {ops:Array Oper} {o:Oper} {a:Act} {K:Act→World→Prop} {Q:Exit→Act→World→Prop} {E:Prop} (hgd:o.guard=none) (s x:Operand) (t:TypeId)
 (ho:o.op= .call {callee:= .builtin .append,args:= #[s,x],argTypes:= #[t,t]}) (e:TypeId) (i:TypeInfo) (z:Value) (k bytes:Nat) (ht:P.underlying t=some (.slice e)) (hi:P.info? e=some i) (hz:i.zero=some z)
 (hsize:i.size=k) (hby:i.bytes=bytes) (hzs:z.cells.size=k) (hsz:0<k) (hb64:bytes≤64) {w0 w:World} {v:Value} {xs:List Item} (hs:a.eval s=v) (hown:Pl w w0.heap.size e k v xs) (hb:Below w0.heap.size w0 w)
 (u:Value) (y:Item) (hy:y.2.length+1=k) (hy1: ∀ c∈y.2,c.oneCell'=true) (hu:Pv w u y.1) (ad:Addr) (c:Nat) (hx:a.eval x= .slice (some ad) 1 c) (hc: ∀ j z,(u::y.2)[j]?=some z→w.cell? (ad.add j)=some z) (hN:xs.length+1≤1000000000)
 (h: ∀ v' w',Pl w' w0.heap.size e k v' (xs++ [y])→Below w0.heap.size w0 w'→K (a.put o.dst v') w'):
 if Region.wanted o (yielded ops a.tmps)=true then Oper.wp P o a w K Q else E:=by
 have hbytes:(xs.length+1)*bytes≤140737488355328:=Yas (Yde hN hb64) (by decide)
 have hP:=hown;obtain⟨-,-,vs,h3,h4⟩:=hP;refine step_append_lies w hgd s x t ho w0.heap.size e i z k bytes ht hi hz hsize hby hzs hsz v xs.length (Zdl vs xs) hs h4 ad 1 c (u::y.2) hx (by simp;omega) hc ?_ (by decide) (by unfold maxLen;omega) hbytes hb.size w.heap.size rfl ?_
 · intro c hc;rcases Yax.1 hc with rfl|hc
   · exact hu.one
   · exact hy1 c hc
 · intro g cap w' h2 hg _ _;refine h _ w' ?_ (hb.grown hg hb.size fun q hq=>(h4.lt q hq).1)
   refine⟨fun c hc=> ?_,fun e=>by simp at e,vs++ [u], ?_, ?_⟩
   · rcases Ybl.1 hc with hc|hc
     · exact hown.1 c hc
     · rw[Ybt.1 hc];exact hy
   · have e1:Pvs w' vs xs:=⟨h3.1,fun i hi hv=>(h3.2 i hi hv).kept hg (Zhx hown hsz (h3.2 i hi hv))⟩
     exact e1.append (Pvs.single (hu.kept hg (Zhx hown hsz hu)))
   · rw[Zfw h3.1,Ztu,Yak];exact h2
open Go.Sort Sch Adr Mtr
theorem Zame: ∀ r∈Zam,r.one=true→r.path.length=3:=by decide+kernel
theorem Zamd {L:List Line} {i:Nat} {r:Rule} {P:List ByteArray} (hr:r∈Zam) (hl:r.path.length=P.length):Zea P= []∨oneF L i r P= []:=by
 cases h:r.one with
 |false=>exact .inr (Zavz h)
 |true=>exact .inl (Zabq (by rw[←hl,Zame r hr h];decide))
theorem Zarb (A:Option Addr) (cap:Nat) (L:List Line) (i:Nat) (Ar:Option Addr) (cr:Nat) (r:Rule) (b c pb pc:Nat) (P:List ByteArray) (w:World) (hE:Env w) (hR:Rd w 3 A L.length (lines L)) (hcap:L.length≤cap) (hc:cap≤maxLen) (hr:Zab L=true) (hi:i<L.length)
 (hRu:Znx w Ar) (hru:r∈Zam) (hrd:Rd w 1 (some ⟨b,0,none⟩) r.path.length (sv r.path)) (hrc:r.path.length≤c) (hPv:Pv w (.slice (some ⟨pb,0,none⟩) P.length pc) P) (hPl:r.path.length=P.length) (hpl:P.length≤100) (hps:Shw P):
 Calls prog 63 #[.slice A L.length cap, .int .i64 i, .slice Ar 34 cr, .agg #[.slice (some ⟨b,0,none⟩) r.path.length c, .bool r.one, .bool r.needed], .slice (some ⟨pb,0,none⟩) P.length pc] w (Zaue (Zrj L i r P) w):=by
 obtain⟨i0,hii,hz0,hz1,hz2⟩:=info_parts Ztv;obtain⟨s0,hsi,sz0,sz1,sz2⟩:=info_parts Zdz;obtain⟨wb,hwb⟩: ∃ wb,w.heap.size=wb:=⟨_,rfl⟩;obtain⟨w0,hw0⟩: ∃ w0,(w.alloc (.cells #[.slice A L.length cap] 26)).alloc (.cells #[.slice (some ⟨b,0,none⟩) r.path.length c, .bool r.one, .bool r.needed] 106)=w0:=⟨_,rfl⟩;have hb0:Below w.heap.size w w0:=by rw[←hw0];exact((Yae _ _).alloc (Yag _) _).alloc (by simp) _
 have hsz:w0.heap.size=wb+2:=by rw[←hw0,←hwb];simp
 have t0:w0.cell? ⟨wb,0,none⟩=some (.slice A L.length cap):=by
  rw[←hw0,←hwb,World.cell?_alloc_lt _ _ _ (by simp),World.cell?_alloc_at _ _ _ _ rfl];rfl
 have r0:w0.cell? ⟨wb+1,0,none⟩=some (.slice (some ⟨b,0,none⟩) r.path.length c):=by rw[←hw0,World.cell?_alloc_at _ _ _ _ (by simp[hwb])];rfl
 have r1:w0.cell? ⟨wb+1,1,none⟩=some (.bool r.one):=by rw[←hw0,World.cell?_alloc_at _ _ _ _ (by simp[hwb])];rfl
 have h200:=Zas hr;have hE0:=hE.below hb0;have hR0:=hR.below hb0;have hRu0:=hRu.below hb0;have hrd0:=hrd.below hb0;have hPv0:=hPv.below hb0;have HKi:=Zhd (Zmz A cap L i w0 hR0 hcap hc hr hi);have HNe:=Zhd (fun W (hb:Below w0.heap.size w0 W)=>Zalz Ar cr (some ⟨pb,0,none⟩) pc P W (hE0.below hb) (hRu0.below hb) (hPv0.rd.1.below hb) (by omega) hps)
 have HMe:=Zhd (fun W (hb:Below w0.heap.size w0 W)=>Zalv A cap L i b c r (some ⟨pb,0,none⟩) pc P W (hE0.below hb) (hR0.below hb) hcap hc hr (by omega) hru (hrd0.below hb) hrc (hPv0.rd.1.below hb) hPl (by omega) hps)
 have HCl:=Zhd (fun W (hb:Below w0.heap.size w0 W)=>Tryz.slices_Clone_string pb 0 P.length pc P W (Yag _) (by omega) (fun j hj=>by
  have:=(hPv0.rd.1.below hb).2 (by omega)
  obtain⟨ad,e,-,hx⟩:=this;injection e with e
  subst e;have h2:=hx j _ (Zjk hj);rw[Zag]at h2;rw[h2,Yaq,Yaj hj];rfl))
 have HHK:=Zhd (fun W (hb:Below w0.heap.size w0 W) pw s (hw:W.cell? ⟨pw,0,none⟩=some (.string s)) Ak ck (hRk:Rd W 1 Ak (kidsB L i).length (iv (kidsB L i))) (hkl:(kidsB L i).length≤100000)=>
  Zagt A cap L wb pw s Ak ck (kidsB L i) W (hR0.below hb) hc hcap (fun k hk=>by have:=Zbb.1 hk;have h2:=Zbc L i hi;omega) ((hb.cell (p:=⟨wb,0,none⟩) (by show wb<_;omega)).trans t0) hw hRk hkl)
 have HPv:Hid (Pv w0 (.slice (some ⟨pb,0,none⟩) P.length pc) P):=hPv0
 have hkl:(kidsB L i).length≤200:=by
  have h1:=kidsTo_len L (Zao L i+1) (i+1) (endB L i);have h2:=Zbc L i hi;unfold kidsB;omega
 have HF1:=Zhd (Zua L i r P);have HLF:Hid (Zrj L i r P=oneF L i r P++Zgl L i P (Zea P)++Ztz L i r P):=rfl;have HMF:Hid (Ztz L i r P=if Zgy L i r.path P then [(P,7)]else []):=rfl
 have HKH:Hid (∀ s,Zaea L i s=(kidsB L i).any (Zlm L s)):=fun s=>rfl
 have HFW:=Zhd (Zamd (L:=L) (i:=i) hru hPl);have HNL:Hid ((Zea P).length≤34):=by have:=Zmd P 34;rw[Zmc]at this;exact this
 have HB:=Zhd hb0;have HSZ:=Zhd hsz;have HWB:=Zhd hwb;have HT0:=Zhd t0;have HR0:=Zhd r0;have HR1:=Zhd r1;clear hE hR hRu hru hrd hrc hPv hPl hps hb0 hsz t0 r0 r1 hE0 hR0 hRu0 hrd0 hPv0 hr hi
 have HF1L:Hid ((oneF L i r P).length≤1):=by
  rcases HF1.out with⟨-,h⟩|⟨-,-,h⟩|⟨-,-,h⟩|⟨-,-,h⟩<;>(show _≤_;rw[h];simp)
 generalize oneF L i r P=F0 at *;generalize Ztz L i r P=F2 at *;generalize Zgy L i r.path P=mb at *;generalize Zea P=W at *;unfold Zgc at HKi;generalize kidsB L i=K at *;obtain⟨ro,hro⟩: ∃ ro,r.one=ro:=⟨_,rfl⟩;rw[hro]at hw0 HR1 HF1⊢;clear hro;have t0:=HT0.out;go_enter func63,ntmps63;go_wp2_with fail;clear t0;refine HKi.out.mono ?_;rintro e w1 ⟨Ak,ck,rfl,hk1,hk2,hrk,hb1⟩;have r1:=(hb1.cell (p:=⟨wb+1,1,none⟩) (by show wb+1<_;rw[HSZ.out];omega)).trans HR1.out
 have HPv1:=Zhd (HPv.out.below hb1);have HB1:=Zhd hb1;have HRk:=Zhd hrk;clear HKi HR1 hb1 hrk;go_upto_block 0 with fail
 go_cut [11,12] (fun v y wx=>Pl wx w0.heap.size 111 2 v (F0.map Zdu)∧Below w0.heap.size w0 wx∧Below w1.heap.size w1 wx∧y= .slice Ak K.length ck)
 case first=>
  rcases HF1.out with⟨rfl,h2⟩|⟨rfl,hk,h2⟩|⟨rfl,hk,h2⟩|⟨rfl,hk,h2⟩
  · have HH:=Zhd h2;clear h2;go_wp2_with fail;go_meet
    case rel=>rw[HH.out];exact⟨Pl.nil _ _ _ _,HB1.out,Yae _ _,rfl⟩
  · have HH:=Zhd h2;clear h2;go_wp2_with (at_builtin;refine Zmo rfl _ _ 76 rfl w1 w1 111 i0 _ 2 32 underlying76 hii hz0 hz1 hz2 rfl (by decide) (by decide) (Pl.nil _ _ _ _) (Yae _ _) rfl (.slice (some ⟨pb,0,none⟩) P.length pc) (Zdu (P,1)) rfl (Zew _) HPv1.out rfl (by simp) ?_;intro v' w' hown' hb')
    go_meet
    case rel=>rw[HH.out];exact⟨hown'.base HB1.out.size,HB1.out.trans (hb'.mono HB1.out.size),hb',by rw[hk]⟩
  · have HH:=Zhd h2;clear h2;go_wp2_with fail;go_meet
    case rel=>rw[HH.out];exact⟨Pl.nil _ _ _ _,HB1.out,Yae _ _,by rw[hk]⟩
  · have HH:=Zhd h2;have hk0: ¬ K.length=0:=by omega
    have hki:(1:Int)<(K.length:Int):=by omega
    clear h2;go_wp2_with (at_builtin;refine Zmo rfl _ _ 76 rfl w1 w1 111 i0 _ 2 32 underlying76 hii hz0 hz1 hz2 rfl (by decide) (by decide) (Pl.nil _ _ _ _) (Yae _ _) rfl (.slice (some ⟨pb,0,none⟩) P.length pc) (Zdu (P,4)) rfl (Zew _) HPv1.out rfl (by simp) ?_;intro v' w' hown' hb')
    go_meet
    case rel=>rw[HH.out];exact⟨hown'.base HB1.out.size,HB1.out.trans (hb'.mono HB1.out.size),hb',rfl⟩
 case rest =>
  clear HF1 r1 HPv1;obtain⟨hP2,hb2,hb12,rfl⟩:=hcut;have HP2:=Zhd hP2;have HB2:=Zhd hb2;have HRk2:=Zhd (HRk.out.below hb12);clear hP2 hb2 hb12 HRk HB1;go_wp2_with fail;refine(HNe.out wc HB2.out).mono ?_;rintro e w3 ⟨An,cn,rfl,hn1,hn2,hrn,-,hb3⟩;have HB3:=Zhd (Zaa HB2.out hb3);have HP3:=Zhd (HP2.out.below hb3);have HRk3:=Zhd (HRk2.out.below hb3);have HRn:=Zhd hrn;have hwl:=HNL.out;clear HNe HP2 HB2 HRk2 hb3 hrn;have HMW:Hid ((Zgl L i P W).length≤W.length):=Zne L i P W;go_upto_block 1 with fail
  go_cut [11] (fun v wx=>Pl wx w0.heap.size 111 2 v ((F0++Zgl L i P W).map Zdu)∧Below w0.heap.size w0 wx)
  case first=>
   rcases HFW.out with rfl|rfl
   · have HX:Hid (((F0++Zgl L i P []).map Zdu)=F0.map Zdu):=by show _=_;simp[Zgl]
     clear HFW HHK HRk3 HRn;go_wp2_with fail;go_loopw [11,48] (fun v vi wr=>vi= .int .i64 0∧Hid (Pl wr w0.heap.size 111 2 v (F0.map Zdu))∧Hid (Below w0.heap.size w0 wr)) (fun _ _ _=>0)
     case atStart=>exact⟨rfl,HP3,HB3⟩
     case round=>
      obtain⟨rfl,HP,HB⟩:=hrel;go_wp2_with fail;go_meet
      case rel=>rw[HX.out];exact⟨HP.out,HB.out⟩
   · obtain rfl:u11= .slice none 0 0:=HP3.out.2.1 rfl;clear HFW HP3;go_wp2_with fail;go_loopw [11,48] (fun v vi wr=> ∃ k:Nat,k≤W.length∧vi= .int .i64 k∧Hid (Pl wr w3.heap.size 111 2 v ((Zgl L i P (W.take k)).map Zdu))∧Hid (Below w3.heap.size w3 wr)) (fun _ vi _=>W.length-(intOf vi).toNat)
     case atStart=>exact⟨0,Yao _,rfl,by show Pl _ _ _ _ _ _;simpa[Zgl]using Pl.nil _ _ _ _,Yae _ _⟩
     case round=>
      obtain⟨k,hk,rfl,HP,HB⟩:=hrel;by_cases hlt:k<W.length
      · obtain⟨B,O,rfl,hab,hadd,x0⟩:=(HRn.out.below HB.out).strAt hlt
        have hst:Hid (Zgl L i P (W.take (k+1))=Zgl L i P (W.take k)++(if K.any (Zlm L W[k])then []else [(P++ [W[k]],1)])):=by
         show _=_;rw[Yaw hlt,Zahi,HKH.out]
        have hlen:Hid ((Zgl L i P (W.take k)).length≤k):=by
         have:=Zne L i P (W.take k);rw[Yaf]at this;show _≤_;omega
        generalize W[k]=s at *;generalize Zgl L i P (W.take k)=M at *;obtain⟨q,hq⟩: ∃ q,wr.heap.size=q:=⟨_,rfl⟩;obtain⟨wo,hwo⟩: ∃ wo,wr.alloc (.cells #[.string s] 9)=wo:=⟨_,rfl⟩;have hbo:Below wr.heap.size wr wo:=by rw[←hwo];exact(Yae _ _).alloc (Yag _) _
        have y0:wo.cell? ⟨q,0,none⟩=some (.string s):=by rw[←hwo,World.cell?_alloc_at _ _ _ _ hq.symm];rfl
        have HBo:=Zhd (Zaa HB.out hbo);have HPo:=Zhd (HP.out.below hbo);have HY:=Zhd y0;have HC:=Zhd (HHK.out wo (Zaa HB3.out HBo.out) q s y0 Ak ck (HRk3.out.below HBo.out) (by omega))
        have hql:q<wo.heap.size:=by rw[←hwo,←hq];simp
        generalize K.any (Zlm L s)=kb at *;clear hbo y0 HP HB;cases kb with
        | true=>
          have hs2:Hid (Zgl L i P (W.take (k+1))=M):=by show _=_;rw[hst.out];simp
          clear hst;go_wp2_with fail;refine HC.out.mono ?_;rintro e w4 ⟨rfl,hb4⟩;have HB4:=Zhd (Zaa HBo.out hb4);have HP4:=Zhd (HPo.out.below hb4);clear HC hb4 HBo HPo hwo x0;go_wp2_with fail;go_roundw
          case rel=>exact⟨k+1,by omega,by go_num,by show Pl _ _ _ _ _ _;rw[hs2.out];exact HP4.out,HB4⟩
          case measure=>simp[intOf];omega
        | false=>
          have hs2:Hid (Zgl L i P (W.take (k+1))=M++ [(P++ [s],1)]):=by show _=_;rw[hst.out];simp
          clear hst;go_wp2_with fail;refine HC.out.mono ?_;rintro e w4 ⟨rfl,hb4⟩;have HB4:=Zhd (Zaa HBo.out hb4);have HP4:=Zhd (HPo.out.below hb4);have HY4:=Zhd ((hb4.cell (p:=⟨q,0,none⟩) hql).trans HY.out);have y4:=HY4.out;clear HC hb4 HBo HPo hwo x0 HY hql;have HB04:=Zhd (Zaa HB3.out HB4.out)
          have HCL:Hid (∀ W,Below w4.heap.size w4 W→Calls prog 108 #[.slice (some ⟨pb,0,none⟩) P.length pc] W fun e w'=> ∃ v',e= .returned v'∧w'.ownsRow w4.heap.size 9 1 v' P.length (sv P)∧Below w4.heap.size w4 w'∧Below W.heap.size W w'):=fun W hb=>
           (HCl.out W (Zaa HB04.out hb)).mono fun e w' ⟨v',h1,h2,_,h4⟩=>⟨v',h1,by rw[Ybz]at h2;exact Zlc h2 hb.size,Zaa hb h4,h4⟩
          have HPF:=HP4;have HLP:P.length≤1000000:=by omega
          have HLI:Hid ((M.map Zdu).length+1≤1000000000):=by
           have h2:=hlen.out;show _≤_;rw[Yaz];omega
          have HQ4:=Zhd (Lib.lt_of_cell y4);clear HCl HNL HLF HKH;go_upto_region 11 with fail
          go_region_law (first
           |(go_simp;go_at_call 108;refine Calls.mono (HCL.out _ (Yae _ _).drew) ?_;rintro e wcl ⟨vc,rfl,hoc,hbc,hbw⟩;have HOc:=Zhd hoc;have HBc:=Zhd hbc;have HLc:=Zhd hbw;have yc:=(hbc.cell (p:=⟨q,0,none⟩) HQ4.out).trans y4;clear hoc hbc hbw)
           |(go_simp;go_at_call 108;refine Calls.mono (HCL.out _ ((Yae _ _).alloc (Yag _) _).drew) ?_;rintro e wcl ⟨vc,rfl,hoc,hbc,hbw⟩;have HOc:=Zhd hoc;have HBc:=Zhd hbc;have HLc:=Zhd hbw;have yc:=(hbc.cell (p:=⟨q,0,none⟩) HQ4.out).trans y4;clear hoc hbc hbw)
           |(refine Zzm rfl (.tmp 58) (.tmp 60) 34 rfl 9 s0 _ underlying34 hsi sz0 sz1 sz2 rfl (w0:=w4) rfl HOc.out HBc.out HLP s _ 1 rfl ((HLc.out.cell (p:=⟨w4.heap.size,0,none⟩) (by simp)).trans (by simp)) ?_;intro g c' w5 hpv hb5)
           |(refine Zzm rfl (.tmp 58) (.tmp 60) 34 rfl 9 s0 _ underlying34 hsi sz0 sz1 sz2 rfl (w0:=w4) rfl (Zah HOc.out (Zjo _ _)) (Zaa HBc.out (Zjo _ _)) HLP s _ 1 rfl (World.cell?_alloc_at _ _ _ _ rfl) ?_;intro g c' w5 hpv hb5)
           |(refine Zaoc rfl (.tmp 56) (.tmp 63) 76 rfl 111 i0 _ 2 32 underlying76 hii hz0 hz1 hz2 rfl (Nat.succ_pos 1) (Nat.le_of_ble_eq_true rfl) (w0:=w3) rfl (HPF.out.below (Zaa hb5 (Zjo _ _))) (Zaa HB4.out (Zaa hb5 (Zjo _ _))) _ (Zdu (P++ [s],1)) rfl (Zew _) (hpv.below (Zjo _ _)) _ 1 rfl (Zapj _ _ _) HLI.out ?_;intro v6 w6 hP6 hb6))
          all_goals
           have HPN:Hid (Pl w6 w3.heap.size 111 2 v6 ((Zgl L i P (W.take (k+1))).map Zdu)):=by show Pl _ _ _ _ _ _;rw[hs2.out,Ybu];exact hP6
           have HBN:=Zhd hb6;clear hs2 hpv hb5 hP6 hb6 HOc HBc HLc yc y4 HY4 HCL;go_wp2_with fail;go_roundw
           case rel=>exact⟨k+1,by omega,by go_num,HPN,HBN⟩
           case measure=>simp[intOf];omega
      · obtain rfl:k=W.length:=by omega
        have HPN:=HP.out;rw[Ybz]at HPN;have HBN:=Zhd (Zaa HB3.out HB.out);have HPM:=Zhd (HPN.base HB3.out.size);clear HP HB HPN;go_wp2_with fail;go_meet
        case rel=>exact⟨HPM.out,HBN.out⟩
  case rest=>
   clear HFW HHK HRk3 HRn HP3 HB3 HCl HKH HMW hn1 hn2 hk1 hk2;obtain⟨hP5,hb5⟩:=hcut;have HP5:=Zhd hP5;have HB5:=Zhd hb5;have t5:=(hb5.cell (p:=⟨wb,0,none⟩) (by show wb<_;rw[HSZ.out];omega)).trans HT0.out
   have r5:=(hb5.cell (p:=⟨wb+1,0,none⟩) (by show wb+1<_;rw[HSZ.out];omega)).trans HR0.out
   clear hP5 hb5
   have HML:Hid (((F0++Zgl L i P W).map Zdu).length+1≤1000000000):=by
    have h1:=HF1L.out;have h2:=Zne L i P W;show _≤_;rw[Yaz,Yak];omega
   have HLF2:Hid (Zrj L i r P=F0++Zgl L i P W++F2):=HLF.out;generalize Zgl L i P W=M at *;clear HLF;go_wp2_with fail;refine(HMe.out _ HB5.out).mono ?_;rintro e w6 ⟨rfl,hb6⟩;have HB6:=Zhd (Zaa HB5.out hb6);have HP6:=Zhd (HP5.out.below hb6);have HPv6:=Zhd (HPv.out.below HB6.out);clear HMe HP5 HB5 hb6 t5 r5;cases mb with
   | false=>
     have HX:Hid ((Zrj L i r P).map Zdu=(F0++M).map Zdu):=by show _=_;rw[HLF2.out,HMF.out];simp
     clear HLF2 HMF;go_wp2_with fail;go_ret;refine⟨⟨_,rfl, ?_⟩,Zaa HB.out HB6.out⟩;rw[HX.out];exact HP6.out.base HB.out.size
   | true=>
     have HX:Hid ((Zrj L i r P).map Zdu=(F0++M).map Zdu++ [Zdu (P,7)]):=by show _=_;rw[HLF2.out,HMF.out,Yan rfl,Ybu (l₁:=F0++M)];rfl
     clear HLF2 HMF;go_wp2_with (at_builtin;refine Zmo rfl _ _ 76 rfl w0 w6 111 i0 _ 2 32 underlying76 hii hz0 hz1 hz2 rfl (by decide) (by decide) HP6.out HB6.out rfl (.slice (some ⟨pb,0,none⟩) P.length pc) (Zdu (P,7)) rfl (Zew _) HPv6.out rfl HML.out ?_;intro v' w' hown' hb')
     go_ret;refine⟨⟨_,rfl, ?_⟩,Zaa HB.out hb'⟩;rw[HX.out];exact hown'.base HB.out.size
theorem Zawf {w:World} {A:Option Addr} {P:List ByteArray} {c:Nat} (h:Rd w 1 A P.length (sv P)) (hz:Zd A) (hp:0<P.length) (h1:P.length≤c) (h2:c≤maxLen): ∃ b,A=some ⟨b,0,none⟩∧Pv w (.slice (some ⟨b,0,none⟩) P.length c) P:=by
 obtain⟨ad,e,-⟩:=h.2 hp;obtain⟨b,e2⟩:=hz ad e;subst e;subst e2;exact⟨b,rfl,b,c,rfl,h1,h2,hp,h⟩
theorem Zxt (A:Option Addr) (cap:Nat) (L:List Line) (k:Nat) (w:World) (hR:Rd w 3 A L.length (lines L)) (hcap:L.length≤cap) (hc:cap≤maxLen) (hr:Zab L=true) (hk:k<L.length):
 Calls prog 62 #[.slice A L.length cap, .int .i64 k] w fun e w'=>e= .returned (.int .i64 (endB L k:Nat))∧Below w.heap.size w w':=by
 have:=Zqx A cap L k w hR hcap hc;rw[Zfm hr hk,Yan rfl,Ybs]at this;exact this
def Zaoz (L:List Line) (w:World) (e:Ending) (w':World):Prop:=
 ((Zab L=true∧ ∃ v,e= .returned (.tuple #[v, .int .i64 0])∧Pl w' w.heap.size 111 2 v ((Zjf L).map Zdu))∨(Zab L=false∧e= .returned (.tuple #[.slice none 0 0, .int .i64 1])))∧Below w.heap.size w w'
theorem Zapk (A:Option Addr) (cap:Nat) (L:List Line) (w:World) (hR:Rd w 3 A L.length (lines L)) (hcap:L.length≤cap) (hc:cap≤maxLen) (hr:Zab L=false):
 Calls prog 33 #[.slice A L.length cap] w fun e w'=>e= .returned (.tuple #[.slice none 0 0, .int .i64 1])∧Below w.heap.size w w':=by
 have HC:=Zbg A cap L w hR hcap hc;rw[hr]at HC;have HC2:=Zhd HC;clear HC hR;go_enter func33,ntmps33;go_wp2_with fail;refine HC2.out.mono ?_;rintro e w2 ⟨rfl,hb2⟩;go_wp2_with fail;refine bodyPost_ret (results_tmp2 rfl _ _ _) rfl ?_;exact⟨rfl,hb2⟩
theorem Zasc {L:List Line} (hr:Zab L=true) {k:Nat} (hk:k<L.length):(pa L k).length≤16∧0<(pa L k).length∧Shw (pa L k):=by
 have hd:=(Zac hr).2.1;have h1:=Zbt hd hk;have h2:=Zby hd hk;exact⟨by omega,by omega,by rw[←Zot hd hk];exact Zud hr hk⟩
theorem Zaso {P:List ByteArray} {r:Rule} (h:Zjj P=some r):r.path.length=P.length:=Znd (by have:=List.find?_some h;exact this)
theorem Zaro (P:List ByteArray):(Zea P).length≤34:=by have:=Zmd P 34;rwa [Zmc]at this
theorem Zyp (L:List Line) (i:Nat) (r:Rule) (P:List ByteArray):(Zrj L i r P).length≤36:=by
 have h1:=Zne L i P (Zea P);have h2:=Zaro P
 have h3:(oneF L i r P).length≤1:=by
  rcases Zua L i r P with⟨-,h⟩|⟨-,-,h⟩|⟨-,-,h⟩|⟨-,-,h⟩<;>rw[h]<;>simp
 have h4:(Ztz L i r P).length≤1:=by unfold Ztz;split<;>simp
 unfold Zrj;rw[Yak,Yak];omega
theorem Zaaq (L:List Line) (i:Nat):(Zjs L i).length≤36:=by
 unfold Zjs;split
 · split
   · simp
   · exact Zyp _ _ _ _
 · simp
theorem Zajj (L:List Line) (k:Nat):(Zco L k).length≤36*k:=by
 induction k with
 |zero=>simp[Zafy]
 | succ k ih=>
   have:=Zaaq L k;unfold Zco at ih⊢;rw[Ydm,Ycg,Yak,Ybw,List.flatMap_nil,Ybg];omega
theorem Zabi (F:List Zpk): ∀ y∈F.map Zdu,∀ u∈y.2,u.oneCell'=true:=by
 intro y hy;obtain⟨f,-,rfl⟩:=Yda.1 hy;exact Zew f
theorem Zajk (A:Option Addr) (cap:Nat) (L:List Line) (w:World) (hE:Env w) (hR:Rd w 3 A L.length (lines L)) (hcap:L.length≤cap) (hc:cap≤maxLen) (hr:Zab L=true):
 Calls prog 33 #[.slice A L.length cap] w fun e w'=>(∃ v,e= .returned (.tuple #[v, .int .i64 0])∧Pl w' w.heap.size 111 2 v ((Zjf L).map Zdu))∧Below w.heap.size w w':=by
 obtain⟨i0,hii,hz0,hz1,hz2⟩:=info_parts Ztv;have HRg:=Zbg A cap L w hR hcap hc;rw[hr]at HRg;have h200:=Zas hr;have HRi:=Zhd HRg;have HRu:=Zhd (fun W (hb:Below w.heap.size w W)=>Zank W (hE.below hb))
 have HPa:=Zhd (fun(k:Nat) (hk:k<L.length) W (hb:Below w.heap.size w W)=>Zuc A cap L k W (hR.below hb) hcap hc hr hk)
 have HEn:=Zhd (fun(k:Nat) (hk:k<L.length) W (hb:Below w.heap.size w W)=>Zxt A cap L k W (hR.below hb) hcap hc hr hk)
 have HLi:=Zhd (fun(k:Nat) (hk:k<L.length) Ar cr r b c pb pc P W (hb:Below w.heap.size w W)=>Zarb A cap L k Ar cr r b c pb pc P W (hE.below hb) (hR.below hb) hcap hc hr hk)
 have HFi:=Zhd (fun Ar cr A2 c2 P W (hb:Below w.heap.size w W)=>Zaqf Ar cr A2 c2 P W (hE.below hb))
 have HUn:=Zhd (fun Ar cr A2 c2 P W (hb:Below w.heap.size w W)=>Zaco Ar cr A2 c2 P W (hE.below hb))
 have HPP:Hid (∀ k,k<L.length→Zen L k=pa L k):=fun k hk=>Zot (Zac hr).2.1 hk
 have HSh:=Zhd (fun(k:Nat) (hk:k<L.length)=>Zasc hr hk)
 have HA0:Hid (0<L.length→Zeo (pa L 0)=true):=fun h=>Zafo hr h
 have HKn:Hid (∀ k,k<L.length→Zeo (pa L k)=true→ ∀ r,Zjj (pa L k)=some r→Zco L (k+1)=Zco L k++Zrj L k r (pa L k)∧(k+1<L.length→Zeo (pa L (k+1))=true)):=fun k hk ha r h=>
  ⟨Zaae ha h,fun h2=>Zafn hr h2 ha (by unfold Zyo;rw[h];rfl)⟩
 have HSk:Hid (∀ k,k<L.length→Zeo (pa L k)=true→Zjj (pa L k)=none→Zco L (endB L k)=Zco L k++ [(pa L k,Zgq (pa L k))]∧(endB L k<L.length→Zeo (pa L (endB L k))=true)):=fun k hk ha h=>
  ⟨Zafx hr hk ha h,fun h2=>Zaix hr hk h2 ha⟩
 have HEb:=Zhd (fun(k:Nat) (hk:k<L.length)=>Zbc L k hk)
 have HCL:=Zhd (Zajj L);have HLL:=Zhd (Zyp L);have HAll:=Zhd (Zajh (L:=L));clear hE hR HRg hr;go_enter func33,ntmps33;go_wp2_with fail;refine HRi.out.mono ?_;rintro e w1 ⟨rfl,hb1⟩;have HB1:=Zhd hb1;clear HRi hb1;go_wp2_with fail;refine(HRu.out w1 HB1.out).mono ?_;rintro e w2 ⟨⟨v2,rfl,hv2⟩,hb2⟩;have HB2:=Zhd (Zaa HB1.out hb2);obtain⟨Ar,cr,rfl,hcr1,hcr2,hRu⟩:=Zahw hv2;have HRl:=Zhd hRu;clear HRu hv2 hRu hb2 HB1;go_wp2;go_loopw [5,6] (fun v vi wr=> ∃ k:Nat,k≤L.length∧vi= .int .i64 k∧Hid (k<L.length→Zeo (pa L k)=true)∧Hid (Pl wr w2.heap.size 111 2 v ((Zco L k).map Zdu))∧Hid (Below w2.heap.size w2 wr)) (fun _ vi _=>L.length-(intOf vi).toNat)
 case atStart=>exact⟨0,Yao _,rfl,HA0,Pl.nil _ _ _ _,Yae _ _⟩
 case round=>
  clear HA0;obtain⟨k,hk,rfl,HA,HP,HB⟩:=hrel;by_cases hlt:k<L.length
  · have ha:=HA.out hlt;have HBw:=Zhd (Zaa HB2.out HB.out);have HPk:=HPa.out k hlt wr HBw.out;have hks:=HKn.out k hlt ha;have hss:=HSk.out k hlt ha;have hsh:=HSh.out k hlt;have HEk:=Zhd (HEn.out k hlt);have HLk:=Zhd (HLi.out k hlt);have HEB:=HEb.out k hlt;have hcl:=HCL.out k;have hll:=fun r=>HLL.out k r (pa L k)
    rw[HPP.out k hlt]at HPk;generalize pa L k=P at *;have HKS:=Zhd hks;have HSS:=Zhd hss;have HSP:=Zhd hsh.2.2;have HLG:=Zhd hll;obtain⟨hp16,hp0,-⟩:=hsh;unfold Zuo at HPk;clear HA ha hks hss hll;go_wp2_with fail;refine HPk.mono ?_;rintro e w3 ⟨A3,c3,rfl,hc31,hc32,hrd,hz,hb3⟩;obtain⟨pb,rfl,hpv⟩:=Zawf hrd hz hp0 hc31 hc32;have HPv:=Zhd hpv;have HB3:=Zhd (Zaa HB.out hb3);have HBw3:=Zhd (Zaa HB2.out HB3.out);have HP3:=Zhd (HP.out.below hb3);have HF:=Zhd (HFi.out Ar cr (some ⟨pb,0,none⟩) c3 P w3 HBw3.out (HRl.out.below HB3.out) hrd (by omega) HSP.out)
    clear HPk HP HB HBw hpv hrd hz hb3;go_wp2_with fail;refine HF.out.mono ?_;clear HF;unfold Zaip;rintro e w4 ⟨⟨hno,rfl⟩|⟨r,b,c,hyes,hmem,rfl,hrc1,hrc2,hrrd⟩,hb4⟩
    · have hS:=HSS.out hno;have HB4:=Zaa HB3.out hb4;have HP4:=HP3.out.below hb4;have HPv4:=HPv.out.below hb4;clear HKS HSS HP3 HB3 HPv hb4 HBw3;obtain⟨wo,hwo⟩: ∃ wo,w4.alloc (.cells #[.slice none 0 0, .bool false, .bool false] 106)=wo:=⟨_,rfl⟩;have hbo:Below w4.heap.size w4 wo:=by rw[←hwo];exact(Yae _ _).alloc (Yag _) _
      have HBo:=Zhd (Zaa HB4 hbo);have HPo:=Zhd (HP4.below hbo);have HPvo:=Zhd (HPv4.below hbo);have HUk:=Zhd (HUn.out Ar cr (some ⟨pb,0,none⟩) c3 P wo (Zaa HB2.out HBo.out) (HRl.out.below HBo.out) HPvo.out.rd.1 (by omega) hc31 hc32 (by omega) HSP.out)
      have HST:=Zhd hS.1;have HAL:=Zhd hS.2;generalize Zgq P=u at *;have HWO:=Zhd hwo;clear HB4 HP4 HPv4 hbo hS hno hwo;go_wp2_with fail;rw[HWO.out];refine HUk.out.mono ?_;rintro e w5 ⟨rfl,hb5⟩;have HB5:=Zhd (Zaa HBo.out hb5);have HP5:=Zhd (HPo.out.below hb5);have HPv5:=Zhd (HPvo.out.below hb5);clear HUk HPo HPvo HBo hb5 HWO;go_wp2_with (at_builtin;refine Zmo rfl _ _ 76 rfl w2 w5 111 i0 _ 2 32 underlying76 hii hz0 hz1 hz2 rfl (by decide) (by decide) HP5.out HB5.out rfl (.slice (some ⟨pb,0,none⟩) P.length c3) (Zdu (P,u)) rfl (Zew _) HPv5.out rfl (by rw[Yaz];omega) ?_;intro v' w' hown' hb')
      have HB6:=Zhd hb';have HP6:=Zhd hown';clear hown' hb' HP5 HB5 HPv5;refine(HEk.out _ (Zaa HB2.out HB6.out)).mono ?_;rintro e w7 ⟨rfl,hb7⟩;obtain⟨q,hq⟩: ∃ q,endB L k=q+1:=⟨endB L k-1,by omega⟩
      rw[hq]at HST HAL HEB⊢;have hq1:((q+1:Nat):Int)-1=(q:Int):=by omega
      have HB7:=Zhd (Zaa HB6.out hb7)
      have HP7:Hid (Pl w7 w2.heap.size 111 2 v' ((Zco L (q+1)).map Zdu)):=by
       show Pl _ _ _ _ _ _;rw[HST.out,Ybu];exact HP6.out.below hb7
      clear HP6 HB6 hb7 hq HST HEk;go_wp2_with fail;go_roundw
      case rel=>exact⟨q+1,by omega,by go_num,HAL,HP7,HB7⟩
      case measure=>simp[intOf];omega
    · have hS:=HKS.out r hyes;have HB4:=Zaa HB3.out hb4;have HP4:=HP3.out.below hb4;have HPv4:=HPv.out.below hb4;have hrl:=Zaso hyes;have hcl2:=HLG.out r;clear HKS HSS HP3 HB3 HPv hb4 HBw3 HLG;obtain⟨wo,hwo⟩: ∃ wo,w4.alloc (.cells #[.slice (some ⟨b,0,none⟩) r.path.length c, .bool r.one, .bool r.needed] 106)=wo:=⟨_,rfl⟩;have hbo:Below w4.heap.size w4 wo:=by rw[←hwo];exact(Yae _ _).alloc (Yag _) _
      have HBo:=Zhd (Zaa HB4 hbo);have HPo:=Zhd (HP4.below hbo);have HPvo:=HPv4.below hbo;have HLk2:=Zhd (HLk.out Ar cr r b c pb c3 P wo (Zaa HB2.out HBo.out) (HRl.out.below HBo.out) hmem (hrrd.below hbo) hrc1 HPvo hrl (by omega) HSP.out)
      have HST:=Zhd hS.1;have HAL:=Zhd hS.2;generalize Zrj L k r P=lf at *;have HWO:=Zhd hwo;clear HB4 HP4 HPv4 HPvo hbo hS hyes hwo hrrd hrl HLk;go_wp2_with fail;rw[HWO.out];refine HLk2.out.mono ?_;rintro e w5 ⟨⟨v5,rfl,hv5⟩,hb5⟩;have hyc:=Zabi lf;have hyl:(lf.map Zdu).length=lf.length:=Yaz _;obtain⟨ys,hys⟩: ∃ ys,lf.map Zdu=ys:=⟨_,rfl⟩;rw[hys]at hv5 hyc hyl;have HYS:=Zhd hys;have HYC:=Zhd hyc;have HYL:Hid (((Zco L k).map Zdu).length+ys.length≤1000000000):=by show _≤_;rw[Yaz];omega
      obtain⟨A5,c5,rfl,hc51,hc52,hpd5,hn5⟩:=hv5.read;have HB5:=Zhd (Zaa HBo.out hb5);have HP5:=Zhd (HPo.out.below hb5);have HPD:=Zhd hpd5;have HN5:=Zhd hn5;clear HLk2 HPo HBo hb5 HWO hv5 hpd5 hn5 hys hyc hyl;go_wp2_with (at_builtin;refine Zaiz rfl _ _ 76 rfl w2 w5 111 i0 _ 2 32 underlying76 hii hz0 hz1 hz2 rfl (by decide) (by decide) HP5.out HB5.out rfl A5 c5 ys rfl HPD.out HN5.out HYC.out HYL.out ?_;intro v' w' hown' hb')
      have HB6:=Zhd hb'
      have HP6:Hid (Pl w' w2.heap.size 111 2 v' ((Zco L (k+1)).map Zdu)):=by
       show Pl _ _ _ _ _ _;rw[HST.out,Ybu,HYS.out];exact hown'
      clear hown' hb' HP5 HB5 HPD HN5 HST HYS HYC HYL;go_roundw
      case rel=>exact⟨k+1,by omega,by go_num,HAL,HP6,HB6⟩
      case measure=>simp[intOf];omega
  · obtain rfl:k=L.length:=by omega
    have HPF:=HP.out;rw[HAll.out]at HPF;have HPG:=Zhd (HPF.base HB2.out.size);have HBG:=Zhd (Zaa HB2.out HB.out);clear HP HB HPF HA;go_wp2_with fail;refine bodyPost_ret (results_tmp2 rfl _ _ _) rfl ?_;exact⟨⟨_,rfl,HPG.out⟩,HBG.out⟩
theorem Zaji (A:Option Addr) (cap:Nat) (L:List Line) (w:World) (hE:Env w) (hR:Rd w 3 A L.length (lines L)) (hcap:L.length≤cap) (hc:cap≤maxLen):
 Calls prog 33 #[.slice A L.length cap] w (Zaoz L w):=by
 cases hr:Zab L with
 |false=>exact(Zapk A cap L w hR hcap hc hr).mono fun e w' ⟨h1,h2⟩=>⟨.inr ⟨hr,h1⟩,h2⟩
 |true=>exact(Zajk A cap L w hE hR hcap hc hr).mono fun e w' ⟨⟨v,h1,h3⟩,h2⟩=>⟨.inl ⟨hr,v,h1,h3⟩,h2⟩
end Go.Proofs.Zq
namespace Sch
open Go Go.Lib Adr Mtr Tre
end Sch
namespace Go.Proofs.Zq
open Tryz
open Go Go.RowKit Go.Sort Sch Adr Mtr Tre
end Go.Proofs.Zq
namespace Sch
open Go Go.Lib Adr Mtr Tre
end Sch
namespace Go.Proofs.Zq
open Tryz
open Go Go.RowKit Go.Sort Sch Adr Mtr Tre
end Go.Proofs.Zq
namespace Sch
open Go Go.Lib Adr Mtr Tre
def atOf (f:Nat→Bool) (d:Nat):List Nat→Nat
 | []=>d
 |k::l=>if f k then k else atOf f d l
theorem Zus {f:Nat→Bool} {d:Nat}: ∀ {K:List Nat},K.Pairwise (· < ·)→ ∀ k∈K,k<atOf f d K→f k=false
 | [],_,k,h,_=>by cases h
 | q ::K,hp,k,h,hl=>by
   unfold atOf at hl;obtain⟨h1,h2⟩:=Ycd.1 hp;cases hq:f q with
   | true=>
     rw[hq,Yan rfl]at hl;rcases Yax.1 h with e|e
     · omega
     · have:=h1 k e;omega
   | false=>
     rw[hq,Yad (by simp)]at hl
     rcases Yax.1 h with e|e
     · rw[e];exact hq
     · exact Zus h2 k e hl
theorem Zqk {f:Nat→Bool} {d:Nat}: ∀ (K:List Nat),atOf f d K=d∨(atOf f d K∈K∧f (atOf f d K)=true)
 | []=> .inl rfl
 | q ::K=>by
   unfold atOf;cases hq:f q with
   |true=>right;simp[hq]
   | false=>
     rw[Yad (by simp)]
     rcases Zqk K with h|⟨h1,h2⟩
     · exact .inl h
     · exact .inr ⟨Ych _ h1,h2⟩
theorem Zxk {f:Nat→Bool} {d:Nat} {K:List Nat} {j:Nat} (h:j<K.length):atOf f d (K.drop j)=if f K[j]then K[j]else atOf f d (K.drop (j+1)):=by
 rw[Yay h];rfl
def gtAt (L:List Line) (s:ByteArray) (k:Nat):Bool:=Op.bytesLess s.toList (Zbf L k).toList
def atW (L:List Line) (s:ByteArray):Nat:=atOf (gtAt L s) L.length (Zaq L)
theorem Zlh (L:List Line):(Zaq L).Pairwise (· < ·):=by
 unfold Zaq kidsTo;exact List.Pairwise.filter _ List.pairwise_lt_range
theorem Zaxh (L:List Line) (s:ByteArray):atW L s≤L.length:=by
 rcases Zqk (f:=gtAt L s) (d:=L.length) (Zaq L)with h|⟨h,-⟩
 · exact Nat.le_of_eq h
 · have:=(Zbb.1 h).1;unfold atW;omega
section
variable {L:List Line} (hr:Zab L=true) {s:ByteArray} (hn: ¬ [s]∈Zaf L)
include hr
theorem Zaqr {i:Nat} (hi:i<L.length): ∃ m a t,m≤i∧m∈Zaq L∧Zbf L m=a∧pa L m= [a]∧pa L i=a::t:=by
 obtain⟨-,hd,-⟩:=Zac hr;have hl:=Zbt hd hi;obtain⟨m,hm,e⟩:=Zoh hd hi (q:=1) (by omega) (by omega)
 cases hp:pa L i with
 |nil=>rw[hp]at hl;simp at hl
 | cons a t=>
   rw[hp]at e;have hlm:=Zbt hd (show m<L.length by omega)
   have e:pa L m= [a]:=e;have hdm:=Zby hd (show m<L.length by omega)
   rw[e]at hlm;simp only[Ybv]at hlm;have h0:Zao L m=0:=by omega
   have hw:=Zex hr (show m<L.length by omega)
   rw[e]at hw;exact⟨m,a,t,hm,Zbb.2 ⟨by omega,by omega,h0⟩,by rw[←hw];rfl,e,rfl⟩
include hn
theorem Zard {i:Nat} (hi:i<L.length) (h:i<atW L s):pLt (pa L i) [s]:=by
 obtain⟨m,a,t,h1,h2,h3,h4,h5⟩:=Zaqr hr hi;have hf:=Zus (f:=gtAt L s) (d:=L.length) (Zlh L) m h2 (by unfold atW at h;omega)
 unfold gtAt at hf;rw[h3,Proofs.bytesLess_eq,decide_eq_false_iff_not]at hf;have hne:a≠s:=fun e=>hn (Zbs.2 ⟨m,by omega,by rw[h4,e]⟩)
 rw[h5];refine Ziz ?_;rcases List.le_iff_lt_or_eq.1 (List.not_lt.1 hf)with h|h
 · exact h
 · exact absurd (Zjq h) hne
omit hn in
theorem Zaku {i:Nat} (hi:i<L.length) (h:atW L s≤i):pLt [s] (pa L i):=by
 rcases Zqk (f:=gtAt L s) (d:=L.length) (Zaq L)with e|⟨h1,h2⟩
 · unfold atW at h;omega
 · have hk:=Zbb.1 h1;have hd:=(Zac hr).2.1;have hw:=Zex hr hk.1;have hlm:=Zbt hd hk.1;rw[hk.2.2]at hlm;obtain⟨a,ha⟩:=Yek.1 hlm;change Op.bytesLess s.toList (Zbf L (atOf (gtAt L s) L.length (Zaq L))).toList=true at h2;rw[Proofs.bytesLess_eq,Yap,←hw,ha]at h2;have h3:pLt [s] (pa L (atOf (gtAt L s) L.length (Zaq L))):=by rw[ha];exact Ziz h2
   rcases Ybr (atOf (gtAt L s) L.length (Zaq L)) i with g|g
   · exact Zcb h3 (Zos hr g hi)
   · have:atOf (gtAt L s) L.length (Zaq L)=i:=by unfold atW at h;omega
     rw[this]at h3;exact h3
end
end Sch
namespace Lns
open Go Tre
def insB (L:List Line) (k:Nat) (l:Line):List Line:=L.take k++(l::L.drop k)
theorem Zit {L:List Line} {k:Nat} (l:Line):(insB L k l).length=L.length+1:=by
 unfold insB;rw[Yak,Ybf,Yaf,Yam];omega
end Lns
namespace Go.Proofs.Zq
open Tryz
open Go Go.RowKit Tre Lns
theorem Zhg:(prog.info? 62).map (fun i=>(i.zero,i.size,i.bytes))=some (some (.agg #[.int .i64 0, .string ⟨#[]⟩, .int .i64 0]),3,32):=by kernel_rfl
theorem Ziu (L:List Line): ∀ u∈lines L,u.oneCell'=true:=by
 intro u hu;unfold lines at hu;obtain⟨l,-,hl⟩:=Ydf.1 hu;exact cells_one l u hl
end Go.Proofs.Zq
