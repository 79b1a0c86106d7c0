import Derived.Deep.CutBlock
import Derived.Deep.DeepCutAuto
import Derived.Test.YtkbojechhmmkcaaGreatDoorK14
set_option linter.unusedVariables false
set_option linter.unusedSimpArgs false
set_option maxHeartbeats 8000000
set_option maxRecDepth 100000
namespace Sch
open Go Go.Lib Adr Mtr Tre
abbrev Zku:=List ByteArray×Int
def Zer (f:Zku):List ByteArray×List Value:=(f.1,[.int .i64 f.2])
def Zlo (L:List Line) (s:ByteArray) (k:Nat):Bool:=decide (Zbd L k=s)
def Ztk (L:List Line) (i:Nat) (s:ByteArray):Bool:=(kidsB L i).any (Zlo L s)
def oneF (L:List Line) (i:Nat) (r:Rule) (P:List ByteArray):List Zku:=
 if r.one&&decide ((kidsB L i).length=0)then [(P,1)]else if r.one&&decide (1<(kidsB L i).length)then [(P,4)]else []
def Zgt (L:List Line) (i:Nat) (P:List ByteArray) (W:List ByteArray):List Zku:=(W.filter fun s=> !(Ztk L i s)).map fun s=>(P++ [s],1)
def Zts (L:List Line) (i:Nat) (r:Rule) (P:List ByteArray):List Zku:=if Zgp L i r.path P then [(P,7)]else []
def Zot (L:List Line) (i:Nat) (r:Rule) (P:List ByteArray):List Zku:=oneF L i r P++Zgt L i P (Zek P)++Zts L i r P
theorem Zbcz {L:List Line} {i:Nat} {r:Rule} {P:List ByteArray} (h:r.one=false):oneF L i r P= []:=by unfold oneF;rw[h];rfl
theorem Zakx (L:List Line) (i:Nat) (P W:List ByteArray) (s:ByteArray):Zgt L i P (W++ [s])=Zgt L i P W++(if Ztk L i s then []else [(P++ [s],1)]):=by
 unfold Zgt;rw[Yco,Ybv];cases h:Ztk L i s<;>simp[h]
theorem Zoz (L:List Line) (i:Nat) (P W:List ByteArray):(Zgt L i P W).length≤W.length:=by
 unfold Zgt;rw[Yay];exact Yck _ _
def Zdo (f:Nat→Bool):Nat→List Nat→Int
 |_,[]=> -1
 |j,k::l=>if f k then(j:Int)else Zdo f (j+1) l
theorem Ztc {f:Nat→Bool}: ∀ (l:List Nat) (j:Nat),decide (0≤Zdo f j l)=l.any f
 | [],j=>rfl
 | k::l,j=>by
   unfold Zdo;cases h:f k with
   |true=>simp[h]
   |false=>simp only[Yeb,if_false,List.any_cons,h,Bool.false_or];exact Ztc l (j+1)
theorem Zvz {f:Nat→Bool}: ∀ (l:List Nat) (j:Nat),-1≤Zdo f j l
 | [],j=>by unfold Zdo;omega
 | k::l,j=>by
   unfold Zdo;split
   · omega
   · exact Zvz l (j+1)
theorem Zaau {f:Nat→Bool} {l:List Nat} {j:Nat} (h:j<l.length):Zdo f j (l.drop j)=if f l[j]then(j:Int)else Zdo f (j+1) (l.drop (j+1)):=by
 rw[Yaz h];rfl
end Sch
namespace Go.Proofs.Zq
open Tryz
open Go Go.RowKit Go.Sort Sch Adr Mtr Tre
theorem Zapo (A:Option Addr) (cap:Nat) (L:List Line) (k pt pw:Nat) (s:ByteArray) (w:World) (hR:Rd w 3 A L.length (lines L)) (_hc:cap≤maxLen) (_hcap:L.length≤cap) (hk:k<L.length) (ht:w.cell? ⟨pt,0,none⟩=some (.slice A L.length cap)) (hw:w.cell? ⟨pw,0,none⟩=some (.string s)):
 Calls prog 107 #[.int .i64 k, .pointer (some ⟨pt,0,none⟩), .pointer (some ⟨pw,0,none⟩)] w fun e w'=>e= .returned (.bool (Zlo L s k))∧Below w.heap.size w w':=by
 unfold maxLen at _hc;obtain⟨B,O,rfl,hab,hadd,x0,x1,x2⟩:=hR.line hk;have HX:Hid (Zlo L s k=(L[k].word.toList==s.toList)):=by show _=_;unfold Zlo;rw[Zbe hk,Zagn]
 generalize L[k].word=u at *;have hki:(k:Int)<(L.length:Int):=by omega
 have hk0:(0:Int)≤(k:Int):=by omega
 clear hR x0 x2 hab;go_enter func107,ntmps107;go_wp2_with fail;go_quiet (fail);go_wp2;go_ret;exact⟨Zah HX.out.symm,below_drewN (Yag _ _) _⟩
theorem Zyi (A:Option Addr) (cap:Nat) (L:List Line) (pt pw:Nat) (s:ByteArray) (Ak:Option Addr) (ck:Nat) (K:List Nat) (w:World) (hR:Rd w 3 A L.length (lines L)) (hc:cap≤maxLen) (hcap:L.length≤cap) (hK: ∀ k∈K,k<L.length) (ht:w.cell? ⟨pt,0,none⟩=some (.slice A L.length cap)) (hw:w.cell? ⟨pw,0,none⟩=some (.string s))
 (hRk:Rd w 1 Ak K.length (iv K)) (hkl:K.length≤100000):
 Calls prog 138 #[.slice Ak K.length ck, .func (.func 107) #[] #[.pointer (some ⟨pt,0,none⟩), .pointer (some ⟨pw,0,none⟩)]] w fun e w'=>e= .returned (.int .i64 (Zdo (Zlo L s) 0 K))∧Below w.heap.size w w':=by
 have HF:=Zhd (fun W (hb:Below w.heap.size w W) k (hk:k<L.length)=>Zapo A cap L k pt pw s W (hR.below hb) hc hcap hk ((hb.cell (p:=⟨pt,0,none⟩) (Lib.lt_of_cell ht)).trans ht) ((hb.cell (p:=⟨pw,0,none⟩) (Lib.lt_of_cell hw)).trans hw))
 have HR:=Zhd hRk;have HKL:=Zhd hK;have HQ0:Hid (Zdo (Zlo L s) 0 K=Zdo (Zlo L s) 0 (K.drop 0)):=rfl;generalize Zlo L s=f at *;clear hR hK ht hw hRk;go_enter func138,ntmps138;go_wp2;go_loopw [8] (fun vi wr=> ∃ k:Nat,k≤K.length∧vi= .int .i64 k∧Hid (Zdo f 0 K=Zdo f k (K.drop k))∧Hid (Below w.heap.size w wr)) (fun vi _=>K.length-(intOf vi).toNat)
 case atStart=>exact⟨0,Yas _,rfl,HQ0,Yag _ _⟩
 case round=>
  clear HQ0;obtain⟨k,hk,rfl,HQ,HB⟩:=hrel;by_cases hlt:k<K.length
  · obtain⟨B,O,rfl,hab,hadd,x0⟩:=(HR.out.below HB.out).intAt hlt;have HC:=Zhd (HF.out wr HB.out _ (HKL.out _ (Yaw hlt)));have hst:Hid (Zdo f 0 K=if f K[k]then(k:Int)else Zdo f (k+1) (K.drop (k+1))):=HQ.out.trans (Zaau hlt)
    generalize K[k]=r at *;clear HQ;cases hf:f r with
    | true=>
      rw[hf]at hst HC;have HK:Hid (Zdo f 0 K=(k:Int)):=by show _=_;rw[hst.out];rfl
      clear hst hf;go_wp2_with fail;refine HC.out.mono ?_;rintro e w2 ⟨rfl,hb2⟩;have HB2:=Zhd (Zaa HB.out hb2);clear HC HB hb2 x0;go_wp2;go_ret;exact⟨Zcb HK.out.symm,HB2.out⟩
    | false=>
      rw[hf]at hst HC;have HK:Hid (Zdo f 0 K=Zdo f (k+1) (K.drop (k+1))):=by show _=_;rw[hst.out];rfl
      clear hst hf;go_wp2_with fail;refine HC.out.mono ?_;rintro e w2 ⟨rfl,hb2⟩;have HB2:=Zhd (Zaa HB.out hb2);clear HC HB hb2 x0;go_wp2_with fail;go_roundw
      case rel=>exact⟨k+1,by omega,by go_num,HK,HB2⟩
      case measure=>simp[intOf];omega
  · obtain rfl:k=K.length:=by omega
    have HK:Hid (Zdo f 0 K= -1):=by
     show _=_;rw[HQ.out,Ydo];rfl
    clear HQ;go_wp2;go_ret;exact⟨Zcb HK.out.symm,HB.out⟩
theorem Zaki (A:Option Addr) (cap:Nat) (L:List Line) (pt pw:Nat) (s:ByteArray) (Ak:Option Addr) (ck:Nat) (K:List Nat) (w:World) (hR:Rd w 3 A L.length (lines L)) (hc:cap≤maxLen) (hcap:L.length≤cap) (hK: ∀ k∈K,k<L.length) (ht:w.cell? ⟨pt,0,none⟩=some (.slice A L.length cap)) (hw:w.cell? ⟨pw,0,none⟩=some (.string s))
 (hRk:Rd w 1 Ak K.length (iv K)) (hkl:K.length≤100000):
 Calls prog 106 #[.slice Ak K.length ck, .func (.func 107) #[] #[.pointer (some ⟨pt,0,none⟩), .pointer (some ⟨pw,0,none⟩)]] w fun e w'=>e= .returned (.bool (K.any (Zlo L s)))∧Below w.heap.size w w':=by
 have HI:=Zhd (Zyi A cap L pt pw s Ak ck K w hR hc hcap hK ht hw hRk hkl);have HA:=Zhd (Ztc (f:=Zlo L s) K 0);have hlo:=Zvz (f:=Zlo L s) K 0;generalize Zdo (Zlo L s) 0 K=z at *;generalize K.any (Zlo L s)=b at *;clear hR hK ht hw hRk;go_enter func106,ntmps106;go_wp2_with fail;refine HI.out.mono ?_;rintro e w2 ⟨rfl,hb2⟩;go_wp2;go_ret;exact⟨Zah HA.out,hb2⟩
theorem Zwd:(prog.info? 111).map (fun i=>(i.zero,i.size,i.bytes))=some (some (.agg #[.slice none 0 0, .int .i64 0]),2,32):=by kernel_rfl
theorem Zfy (f:Zku): ∀ c∈(Zer f).2,c.oneCell'=true:=by
 intro c hc;simp only[Zer,Yav,Ybq,or_false]at hc;subst hc;rfl
def Zbax (F:List Zku) (w:World) (e:Ending) (w':World):Prop:=(∃ v,e= .returned v∧Pl w' w.heap.size 111 2 v (F.map Zer))∧Below w.heap.size w w'
theorem Zwi (L:List Line) (i:Nat) (r:Rule) (P:List ByteArray):
 (r.one=false∧oneF L i r P= [])∨(r.one=true∧(kidsB L i).length=0∧oneF L i r P= [(P,1)])∨(r.one=true∧(kidsB L i).length=1∧oneF L i r P= [])∨(r.one=true∧1<(kidsB L i).length∧oneF L i r P= [(P,4)]):=by
 unfold oneF;cases h:r.one with
 |false=>exact .inl ⟨rfl,rfl⟩
 | true=>
   generalize (kidsB L i).length=n;rcases Nat.lt_trichotomy n 1 with h1|h1|h1
   · obtain rfl:n=0:=by omega
     exact .inr (.inl ⟨rfl,rfl,rfl⟩)
   · subst h1;exact .inr (.inr (.inl ⟨rfl,rfl,rfl⟩))
   · refine .inr (.inr (.inr ⟨rfl,h1, ?_⟩));rw[Yai (by omega),Yal h1];rfl
end Go.Proofs.Zq
namespace Sch
open Go Go.Lib Adr Mtr Tre
def Zabp (P:List ByteArray):Bool:=(Zfi P).isSome
def Zec (P:List ByteArray):Bool:=(List.range P.length).all fun q=>decide (q=0)||Zabp (P.take q)
def Zjv (L:List Line) (i:Nat):List Zku:=
 if Zec (pa L i)then(match Zfi (pa L i)with|none=> [(pa L i,Zgl (pa L i))]|some r=>Zot L i r (pa L i))else []
def Zhx (L:List Line):List Zku:=(List.range L.length).flatMap (Zjv L)
def Zde (L:List Line) (k:Nat):List Zku:=(List.range k).flatMap (Zjv L)
theorem Zof {P:List ByteArray}:Zec P=true↔ ∀ q,1≤q→q<P.length→Zabp (P.take q)=true:=by
 unfold Zec;rw[Ybt];constructor
 · intro h q h1 h2;have:=h q (Ycm.2 h2);simpa[show q≠0 by omega]using this
 · intro h q hq;rcases Ybj q with h0|h0
   · simp[h0]
   · simp[h q h0 (List.mem_range.1 hq)]
theorem Zaab (a:ByteArray):Zec [a]=true:=by
 rw[Zof];intro q h1 h2;simp at h2;omega
section
variable {L:List Line} (hr:Zab L=true)
include hr
theorem Zaiy (h:0<L.length):Zec (pa L 0)=true:=by
 rw[Ztx (Zac hr).2.1 h];exact Zaab _
theorem Zaix {i:Nat} (h:i+1<L.length) (ha:Zec (pa L i)=true) (hk:Zabp (pa L i)=true):Zec (pa L (i+1))=true:=by
 obtain⟨-,hd,-⟩:=Zac hr;have h1:=Zmj hd h;have h2:=Zbz hd (show i<L.length by omega)
 have h3:=Zcf hd h;have h4:=Zcf hd (show i<L.length by omega)
 rw[Zof]at ha⊢;rw[Zkg h];intro q hq1 hq2;rw[Yae,Yah,Ybz]at hq2;have hq3:q≤(Zaj L (i+1)).toNat:=by omega
 rw[Yce (by rw[Yah];omega),Ycl,Yba hq3]
 by_cases hl:q<(pa L i).length
 · exact ha q hq1 hl
 · rw[Ybh (by omega)];exact hk
theorem Zamr {i:Nat} (hi:i<L.length) (h:endB L i<L.length) (ha:Zec (pa L i)=true):Zec (pa L (endB L i))=true:=by
 obtain⟨-,hd,-⟩:=Zac hr;have hb:=Zbb L i hi;have ho:=Zli hi h;obtain⟨e,he⟩: ∃ e,endB L i=e+1:=⟨endB L i-1,by omega⟩
 have h2:=Zbz hd hi;have h4:=Zcf hd hi;have h5:=Zcf hd h
 have hkp:=Ztw hd (D:=(Zaj L (endB L i)).toNat) (i:=i) (k:=e) (by omega) (by omega) (fun m m1 m2=>by
  have:=Zra hi m1 (by omega:m<endB L i)
  omega)
 rw[Zof]at ha⊢;rw[he]at h hkp h5 ho⊢;have h6:=Zbz hd (show e<L.length by omega)
 have h7:=Zmj hd h;rw[Zkg h];intro q hq1 hq2;rw[Yae,Yah,Ybz]at hq2;have hq3:q≤(Zaj L (e+1)).toNat:=by omega
 rw[Yce (by rw[Yah];omega),hkp,Ycl,Yba hq3]
 exact ha q hq1 (by omega)
theorem Zbbt {i m:Nat} (hi:i<L.length) (h1:i<m) (h2:m<endB L i) (hk:Zabp (pa L i)=false):Zec (pa L m)=false:=by
 obtain⟨-,hd,-⟩:=Zac hr;have hb:=Zbb L i hi;have hl:=Zbz hd hi;have hm:=Zbz hd (show m<L.length by omega)
 have h4:=Zcf hd hi;have h5:=Zra hi h1 h2
 have hkp:=Ztw hd (D:=(Zaj L i).toNat+1) (i:=i) (k:=m) (by omega) (by omega) (fun x x1 x2=>by
  have:=Zra hi x1 (by omega:x<endB L i)
  omega)
 rw[Ybh (l:=pa L i) (by omega)]at hkp
 cases ha:Zec (pa L m)with
 |false=>rfl
 | true=>
   rw[Zof]at ha;have:=ha ((Zaj L i).toNat+1) (by omega) (by omega)
   rw[hkp,hk]at this;cases this
omit hr in
theorem Zand:Zde L L.length=Zhx L:=rfl
omit hr in
theorem Zajl:Zde L 0= []:=rfl
omit hr in
theorem Zadi {i:Nat} {r:Rule} (ha:Zec (pa L i)=true) (h:Zfi (pa L i)=some r):Zde L (i+1)=Zde L i++Zot L i r (pa L i):=by
 unfold Zde;rw[Ydg,Ycf];congr 1;unfold Zjv;rw[Ybl,List.flatMap_nil,Ybg,ha,h];rfl
theorem Zajk {i:Nat} (hi:i<L.length) (ha:Zec (pa L i)=true) (h:Zfi (pa L i)=none):Zde L (endB L i)=Zde L i++ [(pa L i,Zgl (pa L i))]:=by
 have hb:=Zbb L i hi;have hk:Zabp (pa L i)=false:=by unfold Zabp;rw[h];rfl
 have key: ∀ n,i+1+n≤endB L i→Zde L (i+1+n)=Zde L i++ [(pa L i,Zgl (pa L i))]:=by
  intro n
  induction n with
  | zero=>
    intro _;unfold Zde;rw[Ydy,Ydg,Ycf];congr 1;unfold Zjv;rw[Ybl,List.flatMap_nil,Ybg,ha,h];rfl
  | succ n ih=>
    intro hn;have e:=ih (by omega)
    rw[←e];unfold Zde;rw[←Ydn,Ydg,Ycf];have hdead:=Zbbt hr hi (show i<i+1+n by omega) (by omega) hk
    have:Zjv L (i+1+n)= []:=by unfold Zjv;rw[hdead];rfl
    rw[Ybl,this,List.flatMap_nil,Ybg,Ybg]
 have:=key (endB L i-(i+1)) (by omega)
 rwa [show i+1+(endB L i-(i+1))=endB L i by omega]at this
end
def memB {α:Type} [DecidableEq α] (x:α) (l:List α):Bool:=l.any fun y=>decide (y=x)
theorem Zru {α:Type} [DecidableEq α] {x:α} {l:List α}:memB x l=true↔x∈l:=by
 unfold memB;rw[Yei];simp
theorem Zaxu {α:Type} [DecidableEq α] {x:α} {l:List α}:memB x l=false↔ ¬ x∈l:=by
 rw[←Zru];simp
theorem Zrc {α β:Type} {f g:α→List β}: ∀ {l:List α},(∀ x∈l,f x=g x)→l.flatMap f=l.flatMap g
 | [],_=>rfl
 |x::l,h=>by rw[Ybl,Ybl,h x (by simp),Zrc fun y hy=>h y (by simp[hy])]
instance (a b:List ByteArray):Decidable (pLt a b):=inferInstanceAs (Decidable (List.lt (key a) (key b)))
def Zps (S:List (List ByteArray)) (a b:ByteArray):Bool:=memB [a,b] S
def outS (S:List (List ByteArray)) (s vni:ByteArray):Bool:=
 memB [Zdv,vni,Zeb] S&&match kw S [Zdv,vni,Zeb]with
  | []=>false
  |u::_=>decide (0≤(pre u.data.toList).1)&& !(isIn (pre u.data.toList).1 (pre u.data.toList).2 (max (ip s.data.toList) 0))
def twS (S:List (List ByteArray)) (P:List ByteArray) (s:ByteArray):Bool:=S.any fun Q=>decide (pLt Q P)&&Zbt [Zch,Zgw,wIp,s] Q
def Zng (S:List (List ByteArray)) (p P:List ByteArray):Bool:=
 if Zee p=m1 then twS S P (P.getD 3 ⟨#[]⟩)
 else if Zee p=m2∨Zee p=m3 then !(Zps S Zch (P.getD 3 ⟨#[]⟩))
 else if Zee p=m4 then !(Zps S Zdv (P.getD 3 ⟨#[]⟩))
 else if Zee p=m5 then !(Zps S Zdv (P.getD 3 ⟨#[]⟩))||outS S (P.getD 1 ⟨#[]⟩) (P.getD 3 ⟨#[]⟩)
 else false
def oneS (K:List ByteArray) (r:Rule) (P:List ByteArray):List Zku:=
 if r.one&&decide (K.length=0)then [(P,1)]else if r.one&&decide (1<K.length)then [(P,4)]else []
def Zapy (K:List ByteArray) (P:List ByteArray):List Zku:=((Zek P).filter fun s=> !(memB s K)).map fun s=>(P++ [s],1)
def Zael (S:List (List ByteArray)) (r:Rule) (P:List ByteArray):List Zku:=oneS (kw S P) r P++Zapy (kw S P) P++(if Zng S r.path P then [(P,7)]else [])
def Zgn (S:List (List ByteArray)) (P:List ByteArray):List Zku:=
 if Zec P then(match Zfi P with|none=> [(P,Zgl P)]|some r=>Zael S r P)else []
def Zanc (S:List (List ByteArray)):List Zku:=S.flatMap (Zgn S)
section
variable {L:List Line} (hr:Zab L=true)
include hr
theorem Zux (a b:ByteArray):Zdq L a b=Zps (Zad L) a b:=by
 unfold Zdq Zps;rw[Yby,Zcz hr,Zru]
theorem Zaqn (s vni:ByteArray):Zdl L s vni=outS (Zad L) s vni:=by
 unfold Zdl outS;cases hf:Zas L [Zdv,vni,Zeb]with
 | none=>
   have: ¬ [Zdv,vni,Zeb]∈Zad L:=fun h=>by
    have:=(Zcz hr).2 h;rw[hf]at this;cases this
   rw[Zaxu.2 this];rfl
 | some n=>
   have hm: [Zdv,vni,Zeb]∈Zad L:=(Zcz hr).1 (by rw[hf];rfl)
   obtain⟨hn,hp⟩:=Zdn hr hf;have hk:=Zwf hr hn;rw[hp]at hk;rw[Zru.2 hm,←hk];show(match kidsB L n with| []=>false|k::_=>_)=_
   cases kidsB L n<;>rfl
omit hr in
theorem Zbfm (s:ByteArray): ∀ n k,Zft L s k n=true↔ ∃ j,k≤j∧j<k+n∧Zbt [Zch,Zgw,wIp,s] (Zdg L j)=true:=by
 intro n
 induction n with
 |zero=>intro k;simp[Zft];intro j h1 h2;omega
 | succ n ih=>
   intro k;unfold Zft;rw[Yef,ih];constructor
   · rintro(h|⟨j,h1,h2,h3⟩)
     · exact⟨k,by omega,by omega,h⟩
     · exact⟨j,by omega,by omega,h3⟩
   · rintro⟨j,h1,h2,h3⟩;by_cases hj:j=k
     · subst hj;exact .inl h3
     · exact .inr ⟨j,by omega,by omega,h3⟩
theorem Zbho {i k:Nat} (hi:i<L.length) (hk:k<L.length):pLt (pa L i) (pa L k)↔i<k:=by
 constructor
 · intro h;rcases Nat.lt_trichotomy i k with h1|h1|h1
   · exact h1
   · subst h1;exact absurd h (Zby _)
   · exact absurd (Zcl h (Znd hr h1 hi)) (Zby _)
 · intro h;exact Znd hr h hk
omit hr in
theorem Zbp {Q:List ByteArray}:Q∈Zad L↔ ∃ j,j<L.length∧pa L j=Q:=by
 rw[Zki,Yct];simp[List.mem_range]
theorem Zazv {i:Nat} (hi:i<L.length) (s:ByteArray):Zkt L i s=twS (Zad L) (pa L i) s:=by
 unfold Zkt twS;rw[Yby,Zbfm,Yei];constructor
 · rintro⟨j,-,h2,h3⟩;have hj:j<L.length:=by omega
   rw[Zkh (Zac hr).2.1 hj]at h3;refine⟨pa L j,Zbp.2 ⟨j,hj,rfl⟩, ?_⟩;rw[h3,Yal (Znd hr (by omega) hi)];rfl
 · rintro⟨Q,hQ,h⟩;obtain⟨j,hj,rfl⟩:=Zbp.1 hQ;rw[Yaq,Yao]at h;refine⟨j,Yas _, ?_,by rw[Zkh (Zac hr).2.1 hj];exact h.2⟩
   have:=(Zbho hr hj hi).1 h.1;omega
theorem Zaeq {i:Nat} (hi:i<L.length) (p:List ByteArray):Zgp L i p (pa L i)=Zng (Zad L) p (pa L i):=by
 unfold Zgp Zng;rw[Zazv hr hi,Zux hr,Zux hr,Zaqn hr]
theorem Zakq {i:Nat} (hi:i<L.length) (r:Rule):Zot L i r (pa L i)=Zael (Zad L) r (pa L i):=by
 have hk:=Zwf hr hi;have hlen:(kw (Zad L) (pa L i)).length=(kidsB L i).length:=by rw[←hk,Yay]
 have hhas: ∀ s,Ztk L i s=memB s (kw (Zad L) (pa L i)):=fun s=>by
  unfold Ztk Zlo;rw[←hk,Yby,Yei,Zru,Yct];simp
 unfold Zot Zael oneF oneS Zgt Zapy Zts;rw[Zaeq hr hi,hlen,show(fun s=> !(Ztk L i s))=fun s=> !(memB s (kw (Zad L) (pa L i)))from funext fun s=>by rw[hhas]]
theorem Zadj:Zhx L=Zanc (Zad L):=by
 unfold Zhx Zanc
 conv=>rhs;arg 2;rw[Zki]
 rw[List.flatMap_map];refine Zrc fun i hi=> ?_
 have hi:=Ycm.1 hi;unfold Zjv Zgn;cases Zfi (pa L i)with
 |none=>rfl
 | some r=>
   show(if Zec (pa L i)=true then Zot L i r (pa L i)else [])=if Zec (pa L i)=true then Zael (Zad L) r (pa L i)else []
   rw[Zakq hr hi]
end
def Zgr:List (List ByteArray)→List Line→Prop
 | [],[]=>True
 |q::S,l::L=>(Zco l=true∧l.depth=((q.length-1:Nat):Int)∧q.getLastD ⟨#[]⟩=l.word)∧Zgr S L
 | [],_::_=>False
 |_::_,[]=>False
theorem Zaav: ∀ {S:List (List ByteArray)} {L:List Line},Zgr S L→S.length=L.length
 | [],[],_=>rfl
 |_::_,_::_,h=>by rw[Ybd,Ybd,Zaav h.2]
 | [],_::_,h=>h.elim
 |_::_,[],h=>h.elim
theorem Zhi: ∀ {S T:List (List ByteArray)} {L M:List Line},Zgr S L→Zgr T M→Zgr (S++T) (L++M)
 | [],_,[],_,_,k=>k
 |_::_,_,_::_,_,h,k=>⟨h.1,Zhi h.2 k⟩
 | [],_,_::_,_,h,_=>h.elim
 |_::_,_,[],_,h,_=>h.elim
theorem Ziw: ∀ {S:List (List ByteArray)} {L:List Line} (n:Nat),Zgr S L→Zgr (S.take n) (L.take n)
 | [],[],n,_=>by simp[Zgr]
 |_::_,_::_,0,_=>trivial
 |_::_,_::_,n+1,h=>⟨h.1,Ziw n h.2⟩
 | [],_::_,_,h=>h.elim
 |_::_,[],_,h=>h.elim
theorem Ziv: ∀ {S:List (List ByteArray)} {L:List Line} (n:Nat),Zgr S L→Zgr (S.drop n) (L.drop n)
 | [],[],n,_=>by simp[Zgr]
 |_::_,_::_,0,h=>h
 |_::_,_::_,n+1,h=>Ziv n h.2
 | [],_::_,_,h=>h.elim
 |_::_,[],_,h=>h.elim
theorem Zev (q:List ByteArray) (h:q≠ []):q.dropLast++ [q.getLastD ⟨#[]⟩]=q:=by
 rw[Ycd,List.getLast?_eq_some_getLast h];exact List.dropLast_concat_getLast h
theorem Zahs: ∀ {S:List (List ByteArray)} {L:List Line} {p:List ByteArray},Zgr S L→(∀ q∈S,q≠ []∧pLt p q∧(q.dropLast∈S∨q.dropLast=p∨pLt q.dropLast p))→S.Pairwise pLt→
 Zdm p L=true∧Zkj p L=true∧Zce p L=S
 | [],[],_,_,_,_=>⟨rfl,rfl,rfl⟩
 | [],_::_,_,h,_,_=>h.elim
 |_::_,[],_,h,_,_=>h.elim
 | q::S,l::L,p,h,hq,hs=>by
   obtain⟨⟨h1,h2,h3⟩,hf⟩:=h;obtain⟨hs1,hs2⟩:=Ycj.1 hs;obtain⟨hne,hpq,hpre⟩:=hq q (by simp)
   have hpush:=Zev q hne;have hlt:pLt q.dropLast q:=by
    have:=Zms q.dropLast (q.getLastD ⟨#[]⟩) []
    rwa [hpush]at this
   have hpre2:q.dropLast=p∨pLt q.dropLast p:=by
    rcases hpre with h|h
    · rcases Yav.1 h with e|e
      · rw[e]at hlt;exact absurd hlt (Zby _)
      · exact absurd (Zcl hlt (hs1 _ e)) (Zby _)
    · exact h
   obtain⟨s,hps⟩: ∃ s,p=q.dropLast++s:=by
    rcases hpre2 with e|e
    · exact⟨[],by rw[e];simp⟩
    · exact Zamw e (.inl (by rw[hpush];exact hpq))
   have hdl:q.dropLast.length=q.length-1:=by simp
   have hdn:l.depth.toNat=q.dropLast.length:=by rw[h2,hdl];simp
   have hnxt:nxt p l=q:=by
    unfold nxt;rw[hdn,hps,Yea,←h3,hpush];rfl
   have hle:l.depth≤(p.length:Int):=by
    rw[h2,←hdl,hps,Yae];omega
   have hsrt:Zafl p l=true:=by
    unfold Zafl;cases s with
    | nil=>
      rw[Ybg]at hps;rw[Yal (p:=l.depth=(p.length:Int)) (by rw[h2,←hdl,hps])];rfl
    | cons x s=>
      have hx:pLt (x::s) [q.getLastD ⟨#[]⟩]:=by
       rw[hps]at hpq
       conv at hpq=>rhs;rw[←hpush]
       exact Zgi.1 hpq
      have hxl:x.toList<l.word.toList:=by
       rcases Zfh.1 hx with h|⟨-,h⟩
       · rw[h3]at h;exact h
       · exact absurd h (Zkf _)
      have hg:p.getD l.depth.toNat ⟨#[]⟩=x:=by
       rw[hdn,hps,Yar,Ybm (Yaf _)];simp
      rw[hg,Proofs.bytesLess_eq,Yal hxl,Bool.or_true]
   have ih:=Zahs (S:=S) (L:=L) (p:=q) hf (fun x hx=>by
    obtain⟨a,b,c⟩:=hq x (Yca _ hx);refine⟨a,hs1 x hx, ?_⟩;rcases c with c|c|c
    · rcases Yav.1 c with e|e
      · exact .inr (.inl e)
      · exact .inl e
    · exact .inr (.inr (by rw[c];exact hpq))
    · exact .inr (.inr (Zcl c hpq))) hs2
   obtain⟨i1,i2,i3⟩:=ih;refine⟨?_, ?_, ?_⟩
   · show(Zco l&&decide (l.depth≤(p.length:Int))&&Zdm (nxt p l) L)=true;rw[h1,Yal hle,hnxt,i1];rfl
   · show(Zafl p l&&Zkj (nxt p l) L)=true;rw[hsrt,hnxt,i2];rfl
   · show nxt p l::Zce (nxt p l) L=q::S;rw[hnxt,i3]
def Zacv (S:List (List ByteArray)):Prop:=S.Pairwise pLt∧ ∀ q∈S,q≠ []∧(q.dropLast∈S∨q.dropLast= [])
theorem Zbgs (q:List ByteArray):q= []∨pLt [] q:=by
 cases q with
 |nil=>exact .inl rfl
 |cons a l=>exact .inr (Zaew a l)
theorem Zlu {S:List (List ByteArray)} {L:List Line} (hf:Zgr S L) (hs:Zacv S) (hl:L.length≤200):Zab L=true∧Zad L=S:=by
 obtain⟨h1,h2,h3⟩:=Zahs (p:= []) hf (fun q hq=>by
  obtain⟨a,b⟩:=hs.2 q hq;refine⟨a, ?_, ?_⟩
  · rcases Zbgs q with e|e
    · exact absurd e a
    · exact e
  · rcases b with b|b
    · exact .inl b
    · exact .inr (.inl b)) hs.1
 exact⟨by rw[Zue,Yal hl,h1,h2];rfl,h3⟩
theorem Zaay: ∀ {L:List Line} {p:List ByteArray},Zdm p L=true→Zgr (Zce p L) L
 | [],_,_=>trivial
 | l::r,p,h=>by
   have h:(Zco l&&decide (l.depth≤(p.length:Int))&&Zdm (nxt p l) r)=true:=h;rw[Yaq,Yaq,Yao]at h;obtain⟨⟨h1,h2⟩,h3⟩:=h;have d:=Zfd h1;have hn:=Zyw d.1 h2;refine⟨⟨h1,by omega, ?_⟩,Zaay h3⟩
   unfold nxt;rw[Ycd,Ycy];rfl
theorem Zcx {L:List Line} (hr:Zab L=true):Zacv (Zad L)∧Zgr (Zad L) L:=by
 obtain⟨-,hd,hs⟩:=Zac hr;refine⟨⟨(Zlz hd hs).2,fun q hq=> ?_⟩,Zaay hd⟩
 obtain⟨i,hi,rfl⟩:=Zbp.1 hq;have hl:=Zbz hd hi;refine⟨fun e=>by rw[e]at hl;simp at hl, ?_⟩
 rcases Ybp 1 (pa L i).length with h|h
 · left
   obtain⟨m,hm,e⟩:=Zqi hd hi (q:=(pa L i).length-1) (by omega) (by omega)
   rw[←Ydc]at e;exact Zbp.2 ⟨m,by omega,e⟩
 · right
   have:(pa L i).length=1:=by omega
   obtain⟨a,e⟩:=Yex.1 this;rw[e];rfl
theorem pa_ne {L:List Line} (hr:Zab L=true) {i:Nat} (hi:i<L.length):pa L i≠ []:=fun e=>by
 have:=Zbz (Zac hr).2.1 hi;rw[e]at this;simp at this
theorem faults_same {S S':List (List ByteArray)} {P:List ByteArray} (h1:kw S' P=kw S P) (h2: ∀ d,Zps S' Zch d=Zps S Zch d) (h3: ∀ d,Zps S' Zdv d=Zps S Zdv d)
 (h4: ∀ v,memB [Zdv,v,Zeb] S'=memB [Zdv,v,Zeb] S) (h5: ∀ v,kw S' [Zdv,v,Zeb]=kw S [Zdv,v,Zeb]) (h6: ∀ s,twS S' P s=twS S P s):Zgn S' P=Zgn S P:=by
 have ho: ∀ a b,outS S' a b=outS S a b:=fun a b=>by unfold outS;rw[h4,h5]
 have hm: ∀ p,Zng S' p P=Zng S p P:=fun p=>by unfold Zng;rw[h6,h2,h3,ho]
 unfold Zgn Zael;cases Zfi P with
 |none=>rfl
 | some r=>
   show(if Zec P=true then oneS (kw S' P) r P++Zapy (kw S' P) P++(if Zng S' r.path P=true then [(P,7)]else [])else [])=(if Zec P=true then oneS (kw S P) r P++Zapy (kw S P) P++(if Zng S r.path P=true then [(P,7)]else [])else [])
   rw[h1,hm]
end Sch
namespace Go.Proofs.Zq
open Tryz
open Go Go.RowKit Tre
theorem Zla (w:World) (o:Obj):Below w.heap.size w (w.alloc o):=(Yag _ _).alloc (Yaf _) _
theorem Zavq (w:World) (cs:Array Value) (T:TypeId): ∀ j z,cs.toList[j]?=some z→(w.alloc (.cells cs T)).cell? ((⟨w.heap.size,0,none⟩:Addr).add j)=some z:=fun j z hz=>by
 rw[Zag,Ybi,World.cell?_alloc_at _ _ _ _ rfl];simpa using hz
theorem Zacs {P:Program} {ops:Array Oper} {o:Oper} {a:Act} {K:Act→World→Prop} {Q:Exit→Act→World→Prop} {E:Prop} (hgd:o.guard=none) (s x:Operand) (t:TypeId)
 (ho:o.op= .call {callee:= .builtin .append,args:= #[s,x],argTypes:= #[t,t]}) (e:TypeId) (i:TypeInfo) (z:Value) (ht:P.underlying t=some (.slice e)) (hi:P.info? e=some i) (hz:i.zero=some z)
 (hsize:i.size=1) (hby:i.bytes=16) (hzs:z.cells.size=1) {w0 w:World} {v:Value} {L:List ByteArray} (hs:a.eval s=v) (hown:w.ownsRow w0.heap.size e 1 v L.length (sv L)) (hb:Below w0.heap.size w0 w) (hL:L.length≤1000000)
 (u:ByteArray) (ad:Addr) (c:Nat) (hx:a.eval x= .slice (some ad) 1 c) (hc:w.cell? ad=some (.string u))
 (h: ∀ g c' w',Pv w' (.slice (some ⟨g,0,none⟩) (L.length+1) c') (L++ [u])→Below w0.heap.size w0 w'→K (a.put o.dst (.slice (some ⟨g,0,none⟩) (L.length+1) c')) w'):
 if Region.wanted o (yielded ops a.tmps)=true then Oper.wp P o a w K Q else E:=by
 refine step_append_lies w hgd s x t ho w0.heap.size e i z 1 16 ht hi hz hsize hby hzs (by decide) v L.length (sv L) hs hown ad 1 c [.string u] hx rfl ?_ ?_ (by decide) (by unfold maxLen;omega) (by omega) hb.size w.heap.size rfl ?_
 · intro j y hy;obtain⟨rfl,rfl⟩:j=0∧y= .string u:=by
    have:=(Ybb.1 hy).1;simp at this;subst this;simp at hy;exact⟨rfl,hy.symm⟩
   have hs:=World.cell?_spot hc;obtain⟨B,O,sp⟩:=ad;obtain rfl:sp=none:=hs;rw[Zag];exact hc
 · intro y hy;rw[Ybu.1 hy];rfl
 · intro g cap w' h2 h3 h4 h5;have h2':=h2;have hl:(L++ [u]).length=L.length+1:=by simp
   refine h g cap w' ?_ (hb.grown h3 hb.size fun q hq=>(hown.lt q hq).1)
   rw[show sv L++ [Value.string u]=sv (L++ [u]) by rw[Zbau];rfl]at h2'
   obtain⟨A,c',e',h6,h7,h8,-⟩:=Zcr h2';injection e' with e1 e2 e3
   subst e1 e3;exact⟨g,cap,by rw[hl],by rw[hl];exact h6,h7,by rw[hl];omega,by rw[hl];exact h8⟩
theorem Zasn {P:Program} {ops:Array Oper} {o:Oper} {a:Act} {K:Act→World→Prop} {Q:Exit→Act→World→Prop} {E:Prop} (hgd:o.guard=none) (s x:Operand) (t:TypeId)
 (ho:o.op= .call {callee:= .builtin .append,args:= #[s,x],argTypes:= #[t,t]}) (e:TypeId) (i:TypeInfo) (z:Value) (k bytes:Nat) (ht:P.underlying t=some (.slice e)) (hi:P.info? e=some i) (hz:i.zero=some z)
 (hsize:i.size=k) (hby:i.bytes=bytes) (hzs:z.cells.size=k) (hsz:0<k) (hb64:bytes≤64) {w0 w:World} {v:Value} {xs:List Item} (hs:a.eval s=v) (hown:Pl w w0.heap.size e k v xs) (hb:Below w0.heap.size w0 w)
 (u:Value) (y:Item) (hy:y.2.length+1=k) (hy1: ∀ c∈y.2,c.oneCell'=true) (hu:Pv w u y.1) (ad:Addr) (c:Nat) (hx:a.eval x= .slice (some ad) 1 c) (hc: ∀ j z,(u::y.2)[j]?=some z→w.cell? (ad.add j)=some z) (hN:xs.length+1≤1000000000)
 (h: ∀ v' w',Pl w' w0.heap.size e k v' (xs++ [y])→Below w0.heap.size w0 w'→K (a.put o.dst v') w'):
 if Region.wanted o (yielded ops a.tmps)=true then Oper.wp P o a w K Q else E:=by
 have hbytes:(xs.length+1)*bytes≤140737488355328:=Yat (Ydj hN hb64) (by decide)
 have hP:=hown;obtain⟨-,-,vs,h3,h4⟩:=hP;refine step_append_lies w hgd s x t ho w0.heap.size e i z k bytes ht hi hz hsize hby hzs hsz v xs.length (Zeh vs xs) hs h4 ad 1 c (u::y.2) hx (by simp;omega) hc ?_ (by decide) (by unfold maxLen;omega) hbytes hb.size w.heap.size rfl ?_
 · intro c hc;rcases Yav.1 hc with rfl|hc
   · exact hu.one
   · exact hy1 c hc
 · intro g cap w' h2 hg _ _;refine h _ w' ?_ (hb.grown hg hb.size fun q hq=>(h4.lt q hq).1)
   refine⟨fun c hc=> ?_,fun e=>by simp at e,vs++ [u], ?_, ?_⟩
   · rcases Ybn.1 hc with hc|hc
     · exact hown.1 c hc
     · rw[Ybu.1 hc];exact hy
   · have e1:Pvs w' vs xs:=⟨h3.1,fun i hi hv=>(h3.2 i hi hv).kept hg (Zjc hown hsz (h3.2 i hi hv))⟩
     exact e1.append (Pvs.single (hu.kept hg (Zjc hown hsz hu)))
   · rw[Zgs h3.1,Zwc,Yae];exact h2
open Go.Sort Sch Adr Mtr
theorem Zaqi: ∀ r∈Zan,r.one=true→r.path.length=3:=by decide+kernel
theorem Zaqh {L:List Line} {i:Nat} {r:Rule} {P:List ByteArray} (hr:r∈Zan) (hl:r.path.length=P.length):Zek P= []∨oneF L i r P= []:=by
 cases h:r.one with
 |false=>exact .inr (Zbcz h)
 |true=>exact .inl (Zaet (by rw[←hl,Zaqi r hr h];decide))
theorem Zaxj (A:Option Addr) (cap:Nat) (L:List Line) (i:Nat) (Ar:Option Addr) (cr:Nat) (r:Rule) (b c pb pc:Nat) (P:List ByteArray) (w:World) (hE:Env w) (hR:Rd w 3 A L.length (lines L)) (hcap:L.length≤cap) (hc:cap≤maxLen) (hr:Zab L=true) (hi:i<L.length)
 (hRu:Zpx w Ar) (hru:r∈Zan) (hrd:Rd w 1 (some ⟨b,0,none⟩) r.path.length (sv r.path)) (hrc:r.path.length≤c) (hPv:Pv w (.slice (some ⟨pb,0,none⟩) P.length pc) P) (hPl:r.path.length=P.length) (hpl:P.length≤100) (hps:Shw P):
 Calls prog 63 #[.slice A L.length cap, .int .i64 i, .slice Ar 34 cr, .agg #[.slice (some ⟨b,0,none⟩) r.path.length c, .bool r.one, .bool r.needed], .slice (some ⟨pb,0,none⟩) P.length pc] w (Zbax (Zot L i r P) w):=by
 obtain⟨i0,hii,hz0,hz1,hz2⟩:=info_parts Zwd;obtain⟨s0,hsi,sz0,sz1,sz2⟩:=info_parts Zei;obtain⟨wb,hwb⟩: ∃ wb,w.heap.size=wb:=⟨_,rfl⟩;obtain⟨w0,hw0⟩: ∃ w0,(w.alloc (.cells #[.slice A L.length cap] 26)).alloc (.cells #[.slice (some ⟨b,0,none⟩) r.path.length c, .bool r.one, .bool r.needed] 106)=w0:=⟨_,rfl⟩;have hb0:Below w.heap.size w w0:=by rw[←hw0];exact((Yag _ _).alloc (Yaf _) _).alloc (by simp) _
 have hsz:w0.heap.size=wb+2:=by rw[←hw0,←hwb];simp
 have t0:w0.cell? ⟨wb,0,none⟩=some (.slice A L.length cap):=by
  rw[←hw0,←hwb,World.cell?_alloc_lt _ _ _ (by simp),World.cell?_alloc_at _ _ _ _ rfl];rfl
 have r0:w0.cell? ⟨wb+1,0,none⟩=some (.slice (some ⟨b,0,none⟩) r.path.length c):=by rw[←hw0,World.cell?_alloc_at _ _ _ _ (by simp[hwb])];rfl
 have r1:w0.cell? ⟨wb+1,1,none⟩=some (.bool r.one):=by rw[←hw0,World.cell?_alloc_at _ _ _ _ (by simp[hwb])];rfl
 have h200:=Zau hr;have hE0:=hE.below hb0;have hR0:=hR.below hb0;have hRu0:=hRu.below hb0;have hrd0:=hrd.below hb0;have hPv0:=hPv.below hb0;have HKi:=Zhd (Zor A cap L i w0 hR0 hcap hc hr hi);have HNe:=Zhd (fun W (hb:Below w0.heap.size w0 W)=>Zaqc Ar cr (some ⟨pb,0,none⟩) pc P W (hE0.below hb) (hRu0.below hb) (hPv0.rd.1.below hb) (by omega) hps)
 have HMe:=Zhd (fun W (hb:Below w0.heap.size w0 W)=>Zapx A cap L i b c r (some ⟨pb,0,none⟩) pc P W (hE0.below hb) (hR0.below hb) hcap hc hr (by omega) hru (hrd0.below hb) hrc (hPv0.rd.1.below hb) hPl (by omega) hps)
 have HCl:=Zhd (fun W (hb:Below w0.heap.size w0 W)=>Tryz.slices_Clone_string pb 0 P.length pc P W (Yaf _) (by omega) (fun j hj=>by
  have:=(hPv0.rd.1.below hb).2 (by omega)
  obtain⟨ad,e,-,hx⟩:=this;injection e with e
  subst e;have h2:=hx j _ (Zks hj);rw[Zag]at h2;rw[h2,Yar,Yaj hj];rfl))
 have HHK:=Zhd (fun W (hb:Below w0.heap.size w0 W) pw s (hw:W.cell? ⟨pw,0,none⟩=some (.string s)) Ak ck (hRk:Rd W 1 Ak (kidsB L i).length (iv (kidsB L i))) (hkl:(kidsB L i).length≤100000)=>
  Zaki A cap L wb pw s Ak ck (kidsB L i) W (hR0.below hb) hc hcap (fun k hk=>by have:=Zbh.1 hk;have h2:=Zbb L i hi;omega) ((hb.cell (p:=⟨wb,0,none⟩) (by show wb<_;omega)).trans t0) hw hRk hkl)
 have HPv:Hid (Pv w0 (.slice (some ⟨pb,0,none⟩) P.length pc) P):=hPv0
 have hkl:(kidsB L i).length≤200:=by
  have h1:=kidsTo_len L (Zaj L i+1) (i+1) (endB L i);have h2:=Zbb L i hi;unfold kidsB;omega
 have HF1:=Zhd (Zwi L i r P);have HLF:Hid (Zot L i r P=oneF L i r P++Zgt L i P (Zek P)++Zts L i r P):=rfl;have HMF:Hid (Zts L i r P=if Zgp L i r.path P then [(P,7)]else []):=rfl
 have HKH:Hid (∀ s,Ztk L i s=(kidsB L i).any (Zlo L s)):=fun s=>rfl
 have HFW:=Zhd (Zaqh (L:=L) (i:=i) hru hPl);have HNL:Hid ((Zek P).length≤34):=by have:=Znx P 34;rw[Znw]at this;exact this
 have HB:=Zhd hb0;have HSZ:=Zhd hsz;have HWB:=Zhd hwb;have HT0:=Zhd t0;have HR0:=Zhd r0;have HR1:=Zhd r1;clear hE hR hRu hru hrd hrc hPv hPl hps hb0 hsz t0 r0 r1 hE0 hR0 hRu0 hrd0 hPv0 hr hi
 have HF1L:Hid ((oneF L i r P).length≤1):=by
  rcases HF1.out with⟨-,h⟩|⟨-,-,h⟩|⟨-,-,h⟩|⟨-,-,h⟩<;>(show _≤_;rw[h];simp)
 generalize oneF L i r P=F0 at *;generalize Zts L i r P=F2 at *;generalize Zgp L i r.path P=mb at *;generalize Zek P=W at *;unfold Zha at HKi;generalize kidsB L i=K at *;obtain⟨ro,hro⟩: ∃ ro,r.one=ro:=⟨_,rfl⟩;rw[hro]at hw0 HR1 HF1⊢;clear hro;have t0:=HT0.out;go_enter func63,ntmps63;go_wp2_with fail;clear t0;refine HKi.out.mono ?_;rintro e w1 ⟨Ak,ck,rfl,hk1,hk2,hrk,hb1⟩;have r1:=(hb1.cell (p:=⟨wb+1,1,none⟩) (by show wb+1<_;rw[HSZ.out];omega)).trans HR1.out
 have HPv1:=Zhd (HPv.out.below hb1);have HB1:=Zhd hb1;have HRk:=Zhd hrk;clear HKi HR1 hb1 hrk;go_upto_block 0 with fail
 go_cut [11,12] (fun v y wx=>Pl wx w0.heap.size 111 2 v (F0.map Zer)∧Below w0.heap.size w0 wx∧Below w1.heap.size w1 wx∧y= .slice Ak K.length ck)
 case first=>
  rcases HF1.out with⟨rfl,h2⟩|⟨rfl,hk,h2⟩|⟨rfl,hk,h2⟩|⟨rfl,hk,h2⟩
  · have HH:=Zhd h2;clear h2;go_wp2_with fail;go_meet
    case rel=>rw[HH.out];exact⟨Pl.nil _ _ _ _,HB1.out,Yag _ _,rfl⟩
  · have HH:=Zhd h2;clear h2;go_wp2_with (at_builtin;refine Zoh rfl _ _ 76 rfl w1 w1 111 i0 _ 2 32 underlying76 hii hz0 hz1 hz2 rfl (by decide) (by decide) (Pl.nil _ _ _ _) (Yag _ _) rfl (.slice (some ⟨pb,0,none⟩) P.length pc) (Zer (P,1)) rfl (Zfy _) HPv1.out rfl (by simp) ?_;intro v' w' hown' hb')
    go_meet
    case rel=>rw[HH.out];exact⟨hown'.base HB1.out.size,HB1.out.trans (hb'.mono HB1.out.size),hb',by rw[hk]⟩
  · have HH:=Zhd h2;clear h2;go_wp2_with fail;go_meet
    case rel=>rw[HH.out];exact⟨Pl.nil _ _ _ _,HB1.out,Yag _ _,by rw[hk]⟩
  · have HH:=Zhd h2;have hk0: ¬ K.length=0:=by omega
    have hki:(1:Int)<(K.length:Int):=by omega
    clear h2;go_wp2_with (at_builtin;refine Zoh rfl _ _ 76 rfl w1 w1 111 i0 _ 2 32 underlying76 hii hz0 hz1 hz2 rfl (by decide) (by decide) (Pl.nil _ _ _ _) (Yag _ _) rfl (.slice (some ⟨pb,0,none⟩) P.length pc) (Zer (P,4)) rfl (Zfy _) HPv1.out rfl (by simp) ?_;intro v' w' hown' hb')
    go_meet
    case rel=>rw[HH.out];exact⟨hown'.base HB1.out.size,HB1.out.trans (hb'.mono HB1.out.size),hb',rfl⟩
 case rest =>
  clear HF1 r1 HPv1;obtain⟨hP2,hb2,hb12,rfl⟩:=hcut;have HP2:=Zhd hP2;have HB2:=Zhd hb2;have HRk2:=Zhd (HRk.out.below hb12);clear hP2 hb2 hb12 HRk HB1;go_wp2_with fail;refine(HNe.out wc HB2.out).mono ?_;rintro e w3 ⟨An,cn,rfl,hn1,hn2,hrn,-,hb3⟩;have HB3:=Zhd (Zaa HB2.out hb3);have HP3:=Zhd (HP2.out.below hb3);have HRk3:=Zhd (HRk2.out.below hb3);have HRn:=Zhd hrn;have hwl:=HNL.out;clear HNe HP2 HB2 HRk2 hb3 hrn;have HMW:Hid ((Zgt L i P W).length≤W.length):=Zoz L i P W;go_upto_block 1 with fail
  go_cut [11] (fun v wx=>Pl wx w0.heap.size 111 2 v ((F0++Zgt L i P W).map Zer)∧Below w0.heap.size w0 wx)
  case first=>
   rcases HFW.out with rfl|rfl
   · have HX:Hid (((F0++Zgt L i P []).map Zer)=F0.map Zer):=by show _=_;simp[Zgt]
     clear HFW HHK HRk3 HRn;go_wp2_with fail;go_loopw [11,48] (fun v vi wr=>vi= .int .i64 0∧Hid (Pl wr w0.heap.size 111 2 v (F0.map Zer))∧Hid (Below w0.heap.size w0 wr)) (fun _ _ _=>0)
     case atStart=>exact⟨rfl,HP3,HB3⟩
     case round=>
      obtain⟨rfl,HP,HB⟩:=hrel;go_wp2_with fail;go_meet
      case rel=>rw[HX.out];exact⟨HP.out,HB.out⟩
   · obtain rfl:u11= .slice none 0 0:=HP3.out.2.1 rfl;clear HFW HP3;go_wp2_with fail;go_loopw [11,48] (fun v vi wr=> ∃ k:Nat,k≤W.length∧vi= .int .i64 k∧Hid (Pl wr w3.heap.size 111 2 v ((Zgt L i P (W.take k)).map Zer))∧Hid (Below w3.heap.size w3 wr)) (fun _ vi _=>W.length-(intOf vi).toNat)
     case atStart=>exact⟨0,Yas _,rfl,by show Pl _ _ _ _ _ _;simpa[Zgt]using Pl.nil _ _ _ _,Yag _ _⟩
     case round=>
      obtain⟨k,hk,rfl,HP,HB⟩:=hrel;by_cases hlt:k<W.length
      · obtain⟨B,O,rfl,hab,hadd,x0⟩:=(HRn.out.below HB.out).strAt hlt
        have hst:Hid (Zgt L i P (W.take (k+1))=Zgt L i P (W.take k)++(if K.any (Zlo L W[k])then []else [(P++ [W[k]],1)])):=by
         show _=_;rw[Yax hlt,Zakx,HKH.out]
        have hlen:Hid ((Zgt L i P (W.take k)).length≤k):=by
         have:=Zoz L i P (W.take k);rw[Yah]at this;show _≤_;omega
        generalize W[k]=s at *;generalize Zgt L i P (W.take k)=M at *;obtain⟨q,hq⟩: ∃ q,wr.heap.size=q:=⟨_,rfl⟩;obtain⟨wo,hwo⟩: ∃ wo,wr.alloc (.cells #[.string s] 9)=wo:=⟨_,rfl⟩;have hbo:Below wr.heap.size wr wo:=by rw[←hwo];exact(Yag _ _).alloc (Yaf _) _
        have y0:wo.cell? ⟨q,0,none⟩=some (.string s):=by rw[←hwo,World.cell?_alloc_at _ _ _ _ hq.symm];rfl
        have HBo:=Zhd (Zaa HB.out hbo);have HPo:=Zhd (HP.out.below hbo);have HY:=Zhd y0;have HC:=Zhd (HHK.out wo (Zaa HB3.out HBo.out) q s y0 Ak ck (HRk3.out.below HBo.out) (by omega))
        have hql:q<wo.heap.size:=by rw[←hwo,←hq];simp
        generalize K.any (Zlo L s)=kb at *;clear hbo y0 HP HB;cases kb with
        | true=>
          have hs2:Hid (Zgt L i P (W.take (k+1))=M):=by show _=_;rw[hst.out];simp
          clear hst;go_wp2_with fail;refine HC.out.mono ?_;rintro e w4 ⟨rfl,hb4⟩;have HB4:=Zhd (Zaa HBo.out hb4);have HP4:=Zhd (HPo.out.below hb4);clear HC hb4 HBo HPo hwo x0;go_wp2_with fail;go_roundw
          case rel=>exact⟨k+1,by omega,by go_num,by show Pl _ _ _ _ _ _;rw[hs2.out];exact HP4.out,HB4⟩
          case measure=>simp[intOf];omega
        | false=>
          have hs2:Hid (Zgt L i P (W.take (k+1))=M++ [(P++ [s],1)]):=by show _=_;rw[hst.out];simp
          clear hst;go_wp2_with fail;refine HC.out.mono ?_;rintro e w4 ⟨rfl,hb4⟩;have HB4:=Zhd (Zaa HBo.out hb4);have HP4:=Zhd (HPo.out.below hb4);have HY4:=Zhd ((hb4.cell (p:=⟨q,0,none⟩) hql).trans HY.out);have y4:=HY4.out;clear HC hb4 HBo HPo hwo x0 HY hql;have HB04:=Zhd (Zaa HB3.out HB4.out)
          have HCL:Hid (∀ W,Below w4.heap.size w4 W→Calls prog 108 #[.slice (some ⟨pb,0,none⟩) P.length pc] W fun e w'=> ∃ v',e= .returned v'∧w'.ownsRow w4.heap.size 9 1 v' P.length (sv P)∧Below w4.heap.size w4 w'∧Below W.heap.size W w'):=fun W hb=>
           (HCl.out W (Zaa HB04.out hb)).mono fun e w' ⟨v',h1,h2,_,h4⟩=>⟨v',h1,by rw[Ybw]at h2;exact Zkc h2 hb.size,Zaa hb h4,h4⟩
          have HPF:=HP4;have HLP:P.length≤1000000:=by omega
          have HLI:Hid ((M.map Zer).length+1≤1000000000):=by
           have h2:=hlen.out;show _≤_;rw[Yay];omega
          have HQ4:=Zhd (Lib.lt_of_cell y4);clear HCl HNL HLF HKH;go_upto_region 11 with fail
          go_region_law (first
           |(go_simp;go_at_call 108;refine Calls.mono (HCL.out _ (Yag _ _).drew) ?_;rintro e wcl ⟨vc,rfl,hoc,hbc,hbw⟩;have HOc:=Zhd hoc;have HBc:=Zhd hbc;have HLc:=Zhd hbw;have yc:=(hbc.cell (p:=⟨q,0,none⟩) HQ4.out).trans y4;clear hoc hbc hbw)
           |(go_simp;go_at_call 108;refine Calls.mono (HCL.out _ ((Yag _ _).alloc (Yaf _) _).drew) ?_;rintro e wcl ⟨vc,rfl,hoc,hbc,hbw⟩;have HOc:=Zhd hoc;have HBc:=Zhd hbc;have HLc:=Zhd hbw;have yc:=(hbc.cell (p:=⟨q,0,none⟩) HQ4.out).trans y4;clear hoc hbc hbw)
           |(refine Zacs rfl (.tmp 58) (.tmp 60) 34 rfl 9 s0 _ underlying34 hsi sz0 sz1 sz2 rfl (w0:=w4) rfl HOc.out HBc.out HLP s _ 1 rfl ((HLc.out.cell (p:=⟨w4.heap.size,0,none⟩) (by simp)).trans (by simp)) ?_;intro g c' w5 hpv hb5)
           |(refine Zacs rfl (.tmp 58) (.tmp 60) 34 rfl 9 s0 _ underlying34 hsi sz0 sz1 sz2 rfl (w0:=w4) rfl (Zai HOc.out (Zla _ _)) (Zaa HBc.out (Zla _ _)) HLP s _ 1 rfl (World.cell?_alloc_at _ _ _ _ rfl) ?_;intro g c' w5 hpv hb5)
           |(refine Zasn rfl (.tmp 56) (.tmp 63) 76 rfl 111 i0 _ 2 32 underlying76 hii hz0 hz1 hz2 rfl (Nat.succ_pos 1) (Nat.le_of_ble_eq_true rfl) (w0:=w3) rfl (HPF.out.below (Zaa hb5 (Zla _ _))) (Zaa HB4.out (Zaa hb5 (Zla _ _))) _ (Zer (P++ [s],1)) rfl (Zfy _) (hpv.below (Zla _ _)) _ 1 rfl (Zavq _ _ _) HLI.out ?_;intro v6 w6 hP6 hb6))
          all_goals
           have HPN:Hid (Pl w6 w3.heap.size 111 2 v6 ((Zgt L i P (W.take (k+1))).map Zer)):=by show Pl _ _ _ _ _ _;rw[hs2.out,Ybv];exact hP6
           have HBN:=Zhd hb6;clear hs2 hpv hb5 hP6 hb6 HOc HBc HLc yc y4 HY4 HCL;go_wp2_with fail;go_roundw
           case rel=>exact⟨k+1,by omega,by go_num,HPN,HBN⟩
           case measure=>simp[intOf];omega
      · obtain rfl:k=W.length:=by omega
        have HPN:=HP.out;rw[Ybw]at HPN;have HBN:=Zhd (Zaa HB3.out HB.out);have HPM:=Zhd (HPN.base HB3.out.size);clear HP HB HPN;go_wp2_with fail;go_meet
        case rel=>exact⟨HPM.out,HBN.out⟩
  case rest=>
   clear HFW HHK HRk3 HRn HP3 HB3 HCl HKH HMW hn1 hn2 hk1 hk2;obtain⟨hP5,hb5⟩:=hcut;have HP5:=Zhd hP5;have HB5:=Zhd hb5;have t5:=(hb5.cell (p:=⟨wb,0,none⟩) (by show wb<_;rw[HSZ.out];omega)).trans HT0.out
   have r5:=(hb5.cell (p:=⟨wb+1,0,none⟩) (by show wb+1<_;rw[HSZ.out];omega)).trans HR0.out
   clear hP5 hb5
   have HML:Hid (((F0++Zgt L i P W).map Zer).length+1≤1000000000):=by
    have h1:=HF1L.out;have h2:=Zoz L i P W;show _≤_;rw[Yay,Yae];omega
   have HLF2:Hid (Zot L i r P=F0++Zgt L i P W++F2):=HLF.out;generalize Zgt L i P W=M at *;clear HLF;go_wp2_with fail;refine(HMe.out _ HB5.out).mono ?_;rintro e w6 ⟨rfl,hb6⟩;have HB6:=Zhd (Zaa HB5.out hb6);have HP6:=Zhd (HP5.out.below hb6);have HPv6:=Zhd (HPv.out.below HB6.out);clear HMe HP5 HB5 hb6 t5 r5;cases mb with
   | false=>
     have HX:Hid ((Zot L i r P).map Zer=(F0++M).map Zer):=by show _=_;rw[HLF2.out,HMF.out];simp
     clear HLF2 HMF;go_wp2_with fail;go_ret;refine⟨⟨_,rfl, ?_⟩,Zaa HB.out HB6.out⟩;rw[HX.out];exact HP6.out.base HB.out.size
   | true=>
     have HX:Hid ((Zot L i r P).map Zer=(F0++M).map Zer++ [Zer (P,7)]):=by show _=_;rw[HLF2.out,HMF.out,Yam rfl,Ybv (l₁:=F0++M)];rfl
     clear HLF2 HMF;go_wp2_with (at_builtin;refine Zoh rfl _ _ 76 rfl w0 w6 111 i0 _ 2 32 underlying76 hii hz0 hz1 hz2 rfl (by decide) (by decide) HP6.out HB6.out rfl (.slice (some ⟨pb,0,none⟩) P.length pc) (Zer (P,7)) rfl (Zfy _) HPv6.out rfl HML.out ?_;intro v' w' hown' hb')
     go_ret;refine⟨⟨_,rfl, ?_⟩,Zaa HB.out hb'⟩;rw[HX.out];exact hown'.base HB.out.size
end Go.Proofs.Zq
