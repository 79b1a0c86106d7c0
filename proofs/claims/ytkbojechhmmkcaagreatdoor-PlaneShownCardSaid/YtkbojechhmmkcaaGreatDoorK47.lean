import Derived.Test.YtkbojechhmmkcaaGreatDoorK01
set_option linter.unusedVariables false
set_option linter.unusedSimpArgs false
namespace Lx
open Go Go.Lib
def Zep (l:List UInt8):Bool:=decide (l≠ [])&&decide (runB l=l.length)&& !(markB l)
def escB (c:UInt8):List UInt8:=if c=34∨c=92 then [92,c]else if c.toNat<32∨126<c.toNat then [92,120,hexL.getD (c.toNat/16) 0,hexL.getD (c.toNat%16) 0]else [c]
def Zdi (l:List UInt8):List UInt8:=if Zep l then l else 34::(l.flatMap escB++ [34])
theorem Zmw (c:UInt8) (l:List UInt8):Zet (c::l)=if c=34 then(match Zbq l with|some n=>n+1|none=>0)else runB (c::l):=rfl
theorem Zny (c:UInt8) (l:List UInt8):Zcm (c::l)=if c=34∨c.toNat<32∨126<c.toNat then(0,0)else if c≠92 then(c,1)
 else match l with
  | []=>(0,0)
  | d::r=>
    if d=34∨d=92 then(d,2)
    else if d≠120 then(0,0)
    else match r with
     |x::y::_=>if indexByte hexL x<0∨indexByte hexL y<0 then(0,0)else(UInt8.ofNat ((indexByte hexL x).toNat *16+(indexByte hexL y).toNat),4)
     |_=>(0,0):=rfl
theorem Zacb {c:UInt8} {l:List UInt8} (h: ¬ (c=34∨c.toNat<32∨126<c.toNat)) (h2:c≠92):Zcm (c::l)=(c,1):=by
 rw[Zny,Yab h,Yam h2]
theorem Zald {d:UInt8} {l:List UInt8} (h:d=34∨d=92):Zcm (92::d::l)=(d,2):=by
 rw[Zny,Yab (by decide),Yab (by decide)]
 simp only;rw[Yam h]
theorem Zalc {x y:UInt8} {l:List UInt8} (h: ¬ (indexByte hexL x<0∨indexByte hexL y<0)):Zcm (92::120::x::y::l)=(UInt8.ofNat ((indexByte hexL x).toNat *16+(indexByte hexL y).toNat),4):=by
 rw[Zny,Yab (by decide),Yab (by decide)]
 simp only;rw[Yab (by decide),Yab (by decide),Yab h]
def ends (r:List UInt8):Prop:= ∀ c r',r=c::r'→Zna c=false
theorem Zzh: ∀ {l:List UInt8} {r:List UInt8},runB l=l.length→ends r→runB (l++r)=l.length
 | [],[],_,_=>rfl
 | [],c::r',_,h=>by
   show runB (c::r')=0;unfold runB;rw[h c r' rfl];rfl
 | c ::l,r,hl,h=>by
   unfold runB at hl;cases hc:Zna c with
   |false=>rw[hc]at hl;simp at hl
   | true=>
     rw[hc,Yam rfl]at hl;show runB (c::(l++r))=_;unfold runB;rw[hc,Yam rfl,Zzh (by simpa using hl) h];rfl
theorem Zhn {l:List UInt8} (h:Zep l=true):l≠ []∧runB l=l.length∧markB l=false:=by
 unfold Zep at h;simp only[Yaq,Yao,Ydp]at h;exact⟨h.1.1,h.1.2,h.2⟩
theorem Zmv {c:UInt8} {l:List UInt8} (h:Zep (c::l)=true):Zna c=true:=by
 have:=(Zhn h).2.1;unfold runB at this;cases hc:Zna c with
 |true=>rfl
 |false=>rw[hc]at this;simp at this
theorem Zxk {c:UInt8} (h:Zna c=true):c≠34∧c≠92∧c≠35∧c≠123∧c≠125∧c≠59∧Zeg c=false:=by
 refine⟨?_, ?_, ?_, ?_, ?_, ?_, ?_⟩
 · rintro rfl;exact absurd h (by decide)
 · rintro rfl;exact absurd h (by decide)
 · rintro rfl;exact absurd h (by decide)
 · rintro rfl;exact absurd h (by decide)
 · rintro rfl;exact absurd h (by decide)
 · rintro rfl;exact absurd h (by decide)
 · cases hb:Zeg c with
   |false=>rfl
   | true=>
     unfold Zeg at hb;simp only[Yef,beq_iff_eq]at hb;rcases hb with((rfl|rfl)|rfl)|rfl<;>exact absurd h (by decide)
theorem Zaot: ∀ n,n<16→indexByte hexL (hexL.getD n 0)=(n:Int):=by decide
theorem Zbao: ∀ n,n<16→hexL.getD n 0≠34∧hexL.getD n 0≠92:=by decide
theorem Zacc: ∀ (l r:List UInt8),Zbq (l.flatMap escB++34::r)=some ((l.flatMap escB).length+1)
 | [],r=>by
   show Zbq (34::r)=some 1;unfold Zbq;rw[Yab (by decide),Yam rfl]
 | c :: l,r=>by
   have ih:=Zacc l r;rw[Ybl,Ybc];generalize l.flatMap escB=E at *;unfold escB;by_cases h1:c=34∨c=92
   · rw[Yam h1];show Zbq (92::c::(E++34::r))=_;unfold Zbq;rw[Yam rfl];simp only;rw[ih];simp
   · rw [Yab h1];by_cases h2:c.toNat<32∨126<c.toNat
     · rw[Yam h2];have hc:=c.toNat_lt;obtain⟨a1,a2⟩:=Zbao (c.toNat/16) (by omega)
       obtain⟨b1,b2⟩:=Zbao (c.toNat%16) (by omega)
       generalize hexL.getD (c.toNat/16) 0=x at *;generalize hexL.getD (c.toNat%16) 0=y at *
       have e1:Zbq (y::(E++34::r))=some (E.length+2):=by
        unfold Zbq;rw[Yab b2,Yab b1,ih];rfl
       have e2:Zbq (x::y::(E++34::r))=some (E.length+3):=by
        unfold Zbq;rw[Yab a2,Yab a1,e1];rfl
       show Zbq (92::120::x::y::(E++34::r))=_;unfold Zbq;rw[Yam rfl];simp only;rw[e2];simp
     · rw[Yab h2];show Zbq (c::(E++34::r))=_;unfold Zbq;rw[Yab (fun h=>h1 (.inr h)),Yab (fun h=>h1 (.inl h)),ih];simp
theorem scan_quote (l r:List UInt8) (hr:ends r):Zet (Zdi l++r)=(Zdi l).length:=by
 unfold Zdi;cases h:Zep l with
 | true=>
   rw[Yam rfl];obtain⟨h1,h2,h3⟩:=Zhn h;cases l with
   |nil=>exact absurd rfl h1
   | cons c l=>
     show Zet (c::(l++r))=_;have hc:=Zxk (Zmv h);rw[Zmw,Yab hc.1];exact Zzh h2 hr
 | false=>
   rw[Yab (by simp)]
   show Zet (34::((l.flatMap escB++ [34])++r))=_;rw[Zmw,Yam rfl,Ybc,show [(34:UInt8)]++r=34::r from rfl,Zacc l r];simp
theorem Zale (c:UInt8) (r:List UInt8):Zcm (escB c++r)=(c,(escB c).length):=by
 unfold escB;by_cases h1:c=34∨c=92
 · rw[Yam h1];exact Zald h1
 · rw[Yab h1];by_cases h2:c.toNat<32∨126<c.toNat
   · rw[Yam h2];have hc:=c.toNat_lt;have a:=Zaot (c.toNat/16) (by omega)
     have b:=Zaot (c.toNat%16) (by omega)
     generalize hexL.getD (c.toNat/16) 0=x at *;generalize hexL.getD (c.toNat%16) 0=y at *;show Zcm (92::120::x::y::r)=_;rw[Zalc (by rw[a,b];omega),a,b,show(((c.toNat/16:Nat):Int).toNat *16+((c.toNat%16:Nat):Int).toNat)=c.toNat by omega,UInt8.ofNat_toNat];rfl
   · rw[Yab h2];exact Zacb (fun h=>h.elim (fun h=>h1 (.inl h)) h2) (fun h=>h1 (.inr h))
theorem Zbcc (c:UInt8):0<(escB c).length:=by
 unfold escB;split
 · simp
 · split<;>simp
theorem Zabi: ∀ (l:List UInt8) (f:Nat),(l.flatMap escB).length≤f→Zew f (l.flatMap escB)=some l
 | [],f,_=>by cases f<;>rfl
 | c ::l,f,h=>by
   rw[Ybl]at h⊢;have hp:=Zale c (l.flatMap escB);have h0:=Zbcc c;rw[Yae]at h;cases f with
   |zero=>omega
   | succ f=>
     have ih:=Zabi l f (by omega)
     generalize l.flatMap escB=E at *;generalize escB c=e at *;cases e with
     |nil=>simp at h0
     | cons d e=>
       show Zew (f+1) (d::(e++E))=_;unfold Zew;have hp:Zcm (d::(e++E))=(c,(d::e).length):=hp;rw[hp,Yab (by simp)]
       rw[show(d::(e++E)).drop (c,(d::e).length).2=E by show((d::e)++E).drop (d::e).length=E;simp,ih];rfl
theorem Zamb {l:List UInt8} (hl:l.length≤40):unqB (Zdi l)=(l,0):=by
 unfold Zdi;cases h:Zep l with
 | true=>
   rw[Yam rfl];obtain⟨h1,h2,h3⟩:=Zhn h
   have hd:decide (l.getD 0 0=34)=false:=by
    cases l with
    |nil=>exact absurd rfl h1
    |cons c l=>exact Yai (Zxk (Zmv h)).1
   unfold unqB;simp only;rw[hd,Yeo,Yfi,Yab (by simp),Yal h1,Yal h2,h3]
   simp only[Bool.not_false,Bool.and_self,if_true];rw[Yab (by omega)]
 | false=>
   rw[Yab (by simp)]
   unfold unqB;have hi:=Zabi l (34::(l.flatMap escB++ [34])).length (by rw[Ybd,Yae];omega)
   generalize l.flatMap escB=E at *;have e1:((34::(E++ [34])).drop 1).take ((34::(E++ [34])).length-2)=E:=by simp
   have e2:(34::(E++ [34])).getD ((34::(E++ [34])).length-1) 0=34:=by
    rw[Yar];simp
   simp only;rw[e1,e2,hi];rw[Yal (show 1<(34::(E++ [34])).length by simp),Yal (show(34::(E++ [34])).getD 0 0=34 from rfl),Yal (show(34:UInt8)=34 from rfl)]
   simp only[Bool.and_self,if_true];rw[Yab (by omega)]
inductive Sg
 |word (l:List UInt8)
 |off
 |keep
 |opn
 |cls
 |fin
def Sg.text:Sg→List UInt8
 | .word l=>Zdi l
 | .off=>Zaw
 | .keep=>Zbk
 | .opn=> [123]
 | .cls=> [125]
 | .fin=> [59]
structure Core where
 kind:Int
 word:ByteArray
 bit:Int
def Tok.core (t:Tok):Core:=⟨t.kind,t.word,t.bit⟩
def Sg.core:Sg→Core
 | .word l=>⟨1,⟨l.toArray⟩,0⟩
 | .off=>⟨5,⟨#[]⟩,1⟩
 | .keep=>⟨5,⟨#[]⟩,2⟩
 | .opn=>⟨2,⟨#[]⟩,0⟩
 | .cls=>⟨3,⟨#[]⟩,0⟩
 | .fin=>⟨4,⟨#[]⟩,0⟩
def Sg.fits (r:List UInt8):Sg→Prop
 | .word l=>l.length≤40∧ends r
 | .off=>ends r
 | .keep=>ends r
 |_=>True
theorem Zbhl {s:List UInt8} {p:Nat} {g:Sg} {r:List UInt8} (h:s.drop p=g.text++r) (hf:g.fits r):(tokB s p).1.core=g.core∧(tokB s p).2=(p+g.text.length,0):=by
 have hg: ∀ c l,s.drop p=c::l→s.getD p 0=c:=fun c l e=>by
  rw[Yar];have:(s.drop p)[0]?=some c:=by rw[e];rfl
  rw[Ycp,Ydy]at this;rw[this];rfl
 have word: ∀ (t:List UInt8),s.drop p=t++r→Zet (s.drop p)=t.length→(∃ c l,t=c::l∧c≠123∧c≠125∧c≠59)→tokB s p=if 0<bitB t then(⟨5,p,⟨#[]⟩,bitB t⟩,p+t.length,0)else(⟨1,p,⟨(unqB t).1.toArray⟩,0⟩,p+t.length,(unqB t).2):=fun t e hs ht=>by
  obtain⟨c,l,rfl,c1,c2,c3⟩:=ht;unfold tokB;rw[hg c (l++r) e];have:Zjn c=0:=by unfold Zjn;rw[Yab c1,Yab c2,Yab c3]
  rw[this,Yab (by decide),hs,Yab (by simp)]
  simp only;rw[e,show(c::l++r).take (c::l).length=c::l by simp]
 cases g with
 |opn=>unfold tokB;rw[hg 123 r h];exact⟨rfl,rfl⟩
 |cls=>unfold tokB;rw[hg 125 r h];exact⟨rfl,rfl⟩
 |fin=>unfold tokB;rw[hg 59 r h];exact⟨rfl,rfl⟩
 | off=>
   have h:s.drop p=Zaw++r:=h;have e:=word Zaw h (by rw[h];show Zet (105::_)=_;rw[Zmw,Yab (by decide)];exact Zzh (l:=Zaw) (by decide) hf) ⟨_,_,rfl,by decide,by decide,by decide⟩
   rw[e];exact⟨rfl,rfl⟩
 | keep=>
   have h:s.drop p=Zbk++r:=h;have e:=word Zbk h (by rw[h];show Zet (112::_)=_;rw[Zmw,Yab (by decide)];exact Zzh (l:=Zbk) (by decide) hf) ⟨_,_,rfl,by decide,by decide,by decide⟩
   rw[e];exact⟨rfl,rfl⟩
 | word l =>
   have h:s.drop p=Zdi l++r:=h
   have hb:bitB (Zdi l)=0∧ ∃ c t,Zdi l=c::t∧c≠123∧c≠125∧c≠59:=by
    unfold Zdi;cases hp:Zep l with
    | true=>
      rw[Yam rfl];obtain⟨h1,h2,h3⟩:=Zhn hp;refine⟨?_, ?_⟩
      · unfold markB at h3;simp only[Ydl,decide_eq_false_iff_not]at h3;unfold bitB;rw[Yab h3.1.1,Yab h3.1.2]
      · cases l with
        |nil=>exact absurd rfl h1
        | cons c l=>
          have:=Zxk (Zmv hp);exact⟨c,l,rfl,this.2.2.2.1,this.2.2.2.2.1,this.2.2.2.2.2.1⟩
    | false=>
      rw[Yab (by simp)]
      refine⟨?_,34,_,rfl,by decide,by decide,by decide⟩
      unfold bitB;rw[Yab (by unfold Zaw;intro h;injection h with h _;exact absurd h (by decide)),Yab (by unfold Zbk;intro h;injection h with h _;exact absurd h (by decide))]
   have e:=word (Zdi l) h (by rw[h];exact scan_quote l r hf.2) hb.2
   rw[hb.1,Yab (by decide),Zamb hf.1]at e
   rw[e];exact⟨rfl,rfl⟩
theorem Zast (g:Sg) (r:List UInt8) (hf:g.fits r): ∃ c t,g.text=c::t∧Zeg c=false∧hasPrefix (g.text++r) [35]=false∧hasPrefix (g.text++r) [47,42]=false:=by
 have pre2: ∀ (c:UInt8) (t:List UInt8),c≠47→hasPrefix (c::t) [47,42]=false:=fun c t h=>by
  unfold hasPrefix;show((47==c)&&_)=false;rw[Yak.2 (Ne.symm h)];rfl
 have pre1: ∀ (c:UInt8) (t:List UInt8),c≠35→hasPrefix (c::t) [35]=false:=fun c t h=>by
  unfold hasPrefix;show((35==c)&&_)=false;rw[Yak.2 (Ne.symm h)];rfl
 cases g with
 |opn=>exact⟨123,[],rfl,by decide,pre1 _ _ (by decide),pre2 _ _ (by decide)⟩
 |cls=>exact⟨125,[],rfl,by decide,pre1 _ _ (by decide),pre2 _ _ (by decide)⟩
 |fin=>exact⟨59,[],rfl,by decide,pre1 _ _ (by decide),pre2 _ _ (by decide)⟩
 |off=>exact⟨105,_,rfl,by decide,pre1 105 _ (by decide),pre2 105 _ (by decide)⟩
 |keep=>exact⟨112,_,rfl,by decide,pre1 112 _ (by decide),pre2 112 _ (by decide)⟩
 | word l=>
   show ∃ c t,Zdi l=c::t∧Zeg c=false∧hasPrefix (Zdi l++r) [35]=false∧hasPrefix (Zdi l++r) [47,42]=false;unfold Zdi;cases hp:Zep l with
   | false=>
     rw[Yab (by simp)]
     exact⟨34,_,rfl,by decide,pre1 34 _ (by decide),pre2 34 _ (by decide)⟩
   | true=>
     rw[Yam rfl];obtain⟨h1,h2,h3⟩:=Zhn hp;cases l with
     |nil=>exact absurd rfl h1
     | cons c l=>
       have hc:=Zxk (Zmv hp);refine⟨c,l,rfl,hc.2.2.2.2.2.2,pre1 c _ hc.2.2.1, ?_⟩;by_cases e:c=47
       · subst e;unfold markB at h3;simp only[Ydl]at h3;cases l with
         | nil=>
           cases r with
           |nil=>rfl
           | cons d r=>
             have hd:=hf.2 d r rfl;have hne:d≠42:=by rintro rfl;exact absurd hd (by decide)
             show((47==47)&&((42==d)&&_))=false;rw[Yak.2 (Ne.symm hne)];rfl
         | cons d l=>
           have:((47==47)&&((42==d)&&([]:List UInt8).isPrefixOf l))=false:=h3.2;show((47==47)&&((42==d)&&([]:List UInt8).isPrefixOf (l++r)))=false;simpa using this
       · exact pre2 c _ e
theorem Zsn {s:List UInt8}: ∀ (ws:List UInt8) (f p:Nat) (r:List UInt8),s.drop p=ws++r→(∀ c∈ws,Zeg c=true)→(r= []∨ ∃ c t,r=c::t∧Zeg c=false∧hasPrefix r [35]=false∧hasPrefix r [47,42]=false)→ws.length<f→Zar s f p=(p+ws.length,true)
 | [],0,p,r,_,_,_,h=>absurd h (Ydm _)
 |_::_,0,p,r,_,_,_,h=>absurd h (Ydm _)
 | [],f+1,p,r,hs,_,hr,_=>by
   have hs:s.drop p=r:=hs;unfold Zar;rcases hr with rfl|⟨c,t,rfl,h1,h2,h3⟩
   · rw[Yab (by rw[List.drop_eq_nil_iff]at hs;omega)];rfl
   · have hp:p<s.length:=by
      refine Nat.lt_of_not_le fun h=> ?_
      rw[Ybe h]at hs;cases hs
     have hg:s.getD p 0=c:=by
      rw[Yar];have:(s.drop p)[0]?=some c:=by rw[hs];rfl
      rw[Ycp,Ydy]at this;rw[this];rfl
     have hc:comB s p=(p:Int):=by
      unfold comB;simp only;rw[hs,h2,h3,Yab (by simp),Yab (by simp)]
     rw[Yam hp,hg,h1,Yab (by simp),hc,Yab (by omega),Yam rfl];rfl
 | b::ws,f+1,p,r,hs,hb,hr,h=>by
   have hp:p<s.length:=by
    refine Nat.lt_of_not_le fun h=> ?_
    rw[Ybe h]at hs;cases hs
   have hg:s.getD p 0=b:=by
    rw[Yar];have:(s.drop p)[0]?=some b:=by rw[hs];rfl
    rw[Ycp,Ydy]at this;rw[this];rfl
   have hn:s.drop (p+1)=ws++r:=by
    rw[←List.drop_drop,hs];rfl
   unfold Zar;rw[Yam hp,hg,hb b (Ycg ..),Yam rfl,Zsn ws f (p+1) r hn (fun c hc=>hb c (Yca _ hc)) hr (by simp at h;omega)]
   simp only[Ybd];rw[show p+1+ws.length=p+(ws.length+1) by omega]
def flat:List (List UInt8×Sg×List UInt8)→List UInt8
 | []=> []
 |(a,g,b)::l=>a++(g.text++(b++flat l))
def Fits:List (List UInt8×Sg×List UInt8)→Prop
 | []=>True
 |(a,g,b)::l=>(∀ c∈a,Zeg c=true)∧(∀ c∈b,Zeg c=true)∧g.fits (b++flat l)∧Fits l
theorem Zahl {s:List UInt8}: ∀ (l:List (List UInt8×Sg×List UInt8)) (ws:List UInt8) (p f:Nat) (out:List Tok),s.drop p=ws++flat l→(∀ c∈ws,Zeg c=true)→Fits l→p≤s.length→s.length<f+p→ ∃ T:List Tok,T.map Tok.core=l.map (fun x=>x.2.1.core)∧Zjr s f p out=(out++T,0,0)
 | [],ws,p,f,out,hs,hw,_,hp,hf=>by
   refine⟨[],rfl, ?_⟩;have hl:s.length=p+ws.length:=by
    have:=congrArg List.length hs;rw[Yan]at this;simp[flat]at this;omega
   cases f with
   |zero=>omega
   | succ f=>
     unfold Zjr;simp only;rw[Zsn ws _ p [] hs hw (.inl rfl) (by omega)]
     simp only;rw[Yab (by simp),Yam hl.symm,Ybg]
 | (a,g,b)::l,ws,p,f,out,hs,hw,hF,hp,hf=>by
   obtain⟨f1,f2,f3,f4⟩:=hF;obtain⟨c,t,e1,e2,e3,e4⟩:=Zast g _ f3;have hs1:s.drop p=(ws++a)++(g.text++(b++flat l)):=by rw[hs,Ybc];rfl
   have hlen:=congrArg List.length hs1;rw[Yan,Yae,Yae,Yae]at hlen;have hg1:0<g.text.length:=by rw[e1];simp
   have hb:=Zsn (s:=s) (ws++a) (s.length+1) p (g.text++(b++flat l)) hs1 (fun c hc=>(Ybn.1 hc).elim (hw c) (f1 c)) (.inr ⟨c,t++(b++flat l),by rw[e1];rfl,e2,e3,e4⟩) (by rw[Yae];omega)
   have hd:s.drop (p+(ws++a).length)=g.text++(b++flat l):=by rw[←List.drop_drop,hs1];simp
   obtain⟨k1,k2⟩:=Zbhl hd f3;have hd2:s.drop (p+(ws++a).length+g.text.length)=b++flat l:=by rw[←List.drop_drop,hd];simp
   cases f with
   |zero=>omega
   | succ f=>
     obtain⟨T,h1,h2⟩:=Zahl l b (p+(ws++a).length+g.text.length) f (out++ [(tokB s (p+(ws++a).length)).1]) hd2 f2 f4 (by rw[Yae];omega) (by omega)
     refine⟨(tokB s (p+(ws++a).length)).1::T,by rw[Yej,Yej,h1,k1], ?_⟩
     unfold Zjr;simp only;rw[hb];simp only;rw[Yab (by simp),Yab (by rw[Yae];omega),k2]
     simp only;rw[Yab (by simp),h2,Ybc];rfl
theorem Zatq {l:List (List UInt8×Sg×List UInt8)} (h:Fits l): ∃ T:List Tok,T.map Tok.core=l.map (fun x=>x.2.1.core)∧allB (flat l)=(T,0,0):=by
 obtain⟨T,h1,h2⟩:=Zahl (s:=flat l) l [] 0 ((flat l).length+1) [] rfl (fun c hc=>by cases hc) h (Yas _) (by omega)
 exact⟨T,h1,h2⟩
end Lx
