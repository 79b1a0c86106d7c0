import Derived.Lib.AtoiAll
import Derived.Lib.ItoaNum
import Derived.Lib.ReplaceLaws
import Derived.Lib.Join
import Derived.Lib.IndexBytes
import Derived.WalkKit
import Derived.WalkSmall
import Derived.Lib.LaidTab
import Derived.Lib.AtoiErrMem
import Derived.Lib.AppendIntMem
import Derived.OwnWalk
import Derived.Laws.OwnMore
import Derived.Laws.AppendOwn
import Derived.Deep.Draws
import Derived.Lib.Strings
import Derived.Laws.BitsAllLaws
import Derived.Test.YtkbojechhmmkcaaGreatDoorK00
set_option linter.unusedVariables false
set_option linter.unusedSimpArgs false
namespace Go.Proofs
open Go.Shelf
def Tryz.lays169_ren:Go.Shelf.Ren:=⟨fun|169=>176|n=>n,fun|70=>219|9=>9|0=>0|72=>221|37=>65|127=>253|3=>3|5=>5|n=>n,fun|n=>n⟩
theorem Tryz.lays169:Go.Proofs.Lays.n169 prog Tryz.lays169_ren:={
 mixed:=by kernel_rfl
 f169:=func176.trans (congrArg some (by kernel_rfl))
 t0:=underlying0
 a0:=Tryz.isAgg0
 z0:=Tryz.sizeOf0
 v0:=Tryz.zeroValue0
 t3:=underlying3
 a3:=Tryz.isAgg3
 z3:=Tryz.sizeOf3
 v3:=Tryz.zeroValue3
 t9:=underlying9
 a9:=Tryz.isAgg9
 z9:=Tryz.sizeOf9
 v9:=Tryz.zeroValue9
 t37:=underlying65
 a37:=Tryz.isAgg65
 z37:=Tryz.sizeOf65
 v37:=Tryz.zeroValue65
 t70:=underlying219
 a70:=Tryz.isAgg219
 z70:=Tryz.sizeOf219
 v70:=Tryz.zeroValue219
 t72:=underlying221
 a72:=Tryz.isAgg221
 z72:=Tryz.sizeOf221
 v72:=Tryz.zeroValue221
 t127:=underlying253
 a127:=Tryz.isAgg253
 z127:=Tryz.sizeOf253
 v127:=Tryz.zeroValue253}
theorem Tryz.Builder_Extra_169:Builder.Extra prog Tryz.lays169_ren:={
 sizeBuilder:=by kernel_rfl
 liesBuilder:=by kernel_rfl
 t5:=underlying5
 a5:=Tryz.isAgg5
 z5:=Tryz.sizeOf5
 v5:=Tryz.zeroValue5
 infoByte:=by kernel_rfl
 cellsByte:=by kernel_rfl
 sizeByte:=by kernel_rfl
 neB5:=by decide}
open Go.RowKit in
theorem Tryz.Builder_String_any (B b:Nat) (l:List UInt8) (w:World) (h:Lib.IsBuilder 221 5 B b (Lib.byteCells l) w) (hBw:B≤w.heap.size):
 Calls prog 176 #[.pointer (some ⟨b,0,none⟩)] w fun e w'=>e= .returned (.string ⟨l.toArray⟩)∧Below B w w':=Any.Builder_String_any Tryz.lays169 Tryz.Builder_Extra_169 B b l w h hBw
end Go.Proofs
namespace Adr
open Go.Lib
def Zdy (c:UInt8):Bool:=decide (48≤c.toNat)&&decide (c.toNat≤57)
def Zgo (a:Nat) (l:List UInt8):Nat:=l.foldl (fun a c=>10*a+(c.toNat-48)) a
theorem Zgb (a:Nat):Zgo a []=a:=rfl
theorem Zgm (a:Nat) (c:UInt8) (r:List UInt8):Zgo a (c::r)=Zgo (10*a+(c.toNat-48)) r:=by unfold Zgo;rw[List.foldl_cons]
def val (l:List UInt8):Nat:=Zgo 0 l
def Zld:List UInt8→Bool
 | []=>false
 |c::r=>decide (r.length<10)&& !(c==48&& !r.isEmpty)&&(c::r).all Zdy
def num (l:List UInt8):Int:=if Zld l then(val l:Int)else -1
theorem Zis (a:Nat) (l m:List UInt8):Zgo a (l++m)=Zgo (Zgo a l) m:=by
 unfold Zgo;rw[List.foldl_append]
theorem Zhj (c:UInt8):Zdy c=true↔48≤c.toNat∧c.toNat≤57:=by simp[Zdy]
theorem Zamc (l:List UInt8) (a:Nat) (h:l.all Zdy=true):Zgo a l<(a+1)*10^l.length:=by
 induction l generalizing a with
 |nil=>simp[Zgb]
 | cons c r ih=>
   simp only[Ydd,Yaq]at h;have hc:=(Zhj c).1 h.1;have:=ih (10*a+(c.toNat-48)) h.2;simp only[Zgm,Ybd,Nat.pow_succ];have h2:(10*a+(c.toNat-48)+1)*10^r.length≤(10*(a+1))*10^r.length:=Yfd _ (by omega)
   have h3:(10*(a+1))*10^r.length=(a+1)*(10^r.length*10):=by
    rw[Yfa 10 (a+1),Nat.mul_assoc,Yfa 10]
   omega
theorem Zais (l:List UInt8) (h:l.all Zdy=true):val l<10^l.length:=by
 have:=Zamc l 0 h;simpa[val]using this
theorem Zri (l:List UInt8) (a:Nat) (h:l.all Zdy=true) (hb:(a+1)*10^l.length≤10000000000):parseUint10 a l= .ok (Zgo a l):=by
 induction l generalizing a with
 |nil=>rfl
 | cons c r ih=>
   simp only[Ydd,Yaq]at h;have hc:=(Zhj c).1 h.1;have hp:1≤10^r.length:=Nat.one_le_pow _ _ (by decide)
   simp only[Ybd,Nat.pow_succ]at hb
   have e3:(a+1)*(10^r.length*10)=(10*(a+1))*10^r.length:=by
    rw[Yfa 10 (a+1),Nat.mul_assoc,Yfa 10]
   have e4:10*(a+1)≤(10*(a+1))*10^r.length:=Nat.le_mul_of_pos_right _ hp;have e5:(10*a+(c.toNat-48)+1)*10^r.length≤(10*(a+1))*10^r.length:=Yfd _ (by omega)
   rw[parseUint10,Yam hc,Yab (by omega),Yab (by omega),Yfa a 10]
   exact ih _ h.2 (by omega)
theorem Zhf {u:Nat} (h:u<10):(UInt8.ofNat (48+u)).toNat=48+u:=by simp;omega
theorem Zajr (n:Nat):(decDigits n).all Zdy=true:=by
 induction n using Nat.strongRecOn with
 | _ n ih=>
   rw[decDigits];split
   · rename_i h;simp only[Ydd,List.all_nil,Bool.and_true,Zhj];have:=Zhf h;omega
   · rename_i h;rw[List.all_append,ih (n/10) (by omega)]
     simp only[Ydd,List.all_nil,Bool.and_true,Ydw,Zhj];have:=Zhf (show n%10<10 by omega);omega
theorem Zbfo (n:Nat):val (decDigits n)=n:=by
 induction n using Nat.strongRecOn with
 | _ n ih=>
   rw[decDigits];split
   · rename_i h;have:=Zhf h;simp only[val,Zgm,Zgb];omega
   · rename_i h;have e:=ih (n/10) (by omega)
     have:=Zhf (show n%10<10 by omega)
     unfold val at e⊢;rw[Zis,e];simp only[Zgm,Zgb];omega
theorem Zbaj (n:Nat):decDigits n≠ []:=by
 rw[decDigits];split<;>simp
theorem Zawc (n:Nat) (hn:n≠0): ∀ c,(decDigits n).head?=some c→c≠48:=by
 induction n using Nat.strongRecOn with
 | _ n ih=>
   intro c hc e;rw[decDigits]at hc;split at hc
   · rename_i h;have h1:=Zhf h;simp only[List.head?_cons,Option.some.injEq]at hc;subst e;rw[hc]at h1;simp at h1;omega
   · rename_i h;have hne:=Zbaj (n/10);cases hd:decDigits (n/10)with
     |nil=>exact hne hd
     | cons d r=>
       rw[hd]at hc;simp only[Ycn,List.head?_cons,Option.some.injEq]at hc;exact ih (n/10) (by omega) (by omega) d (by rw[hd];rfl) (hc.trans e)
theorem Zbbx (l:List UInt8) (hne:l≠ []) (hd:l.all Zdy=true) (h0: ∀ c,l.head?=some c→c=48→l.length=1):decDigits (val l)=l:=by
 suffices h: ∀ (k:Nat) (l:List UInt8),l.length=k→l≠ []→l.all Zdy=true→(∀ c,l.head?=some c→c=48→l.length=1)→decDigits (val l)=l from h _ l rfl hne hd h0
 intro k
 induction k using Nat.strongRecOn with
 | _ k ih=>
   intro l hk hne hd h0;obtain⟨m,c,rfl⟩: ∃ m c,l=m++ [c]:=⟨l.dropLast,l.getLast hne,(List.dropLast_concat_getLast hne).symm⟩;rw[List.all_append,Yaq]at hd;obtain⟨hm,hc⟩:=hd;simp only[Ydd,List.all_nil,Bool.and_true,Zhj]at hc;have ev:val (m++ [c])=10*val m+(c.toNat-48):=by simp only[val,Zis,Zgm,Zgb]
   by_cases hmn:m= []
   · subst hmn;rw[ev];simp only[val,Zgb,List.nil_append];rw[decDigits,dif_pos (by omega)]
     congr 1;apply Ybx.1;rw[Zhf (by omega)];omega
   · have em:decDigits (val m)=m:=ih m.length (by rw[←hk];simp) m rfl hmn hm (by
      intro d hdh he;have:=h0 d (by rw[List.head?_append,hdh];rfl) he
      simp at this;exact absurd this hmn)
     have hpos:1≤val m:=by
      rcases Ybj (val m)with hz|hz
      · exfalso;rw[hz,decDigits,dif_pos (by omega)]at em
        have:=h0 48 (by rw[←em];rfl) rfl
        rw[←em]at this;simp at this
      · exact hz
     rw[ev,decDigits,dif_neg (by omega),show(10*val m+(c.toNat-48))/10=val m by omega,em]
     congr 2;apply Ybx.1;rw[Zhf (by omega)];omega
theorem Zit (l:List UInt8):Zld l=true↔l≠ []∧l.length≤10∧l.all Zdy=true∧ ∀ c,l.head?=some c→c=48→l.length=1:=by
 cases l with
 |nil=>simp[Zld]
 | cons c r=>
   simp only[Zld,Yaq,Yao,Ydp,Bool.and_eq_false_iff,Ybd,List.head?_cons,Option.some.injEq];constructor
   · rintro⟨⟨h1,h2⟩,h3⟩;refine⟨by simp,by omega,h3, ?_⟩
     rintro d rfl rfl;rcases h2 with h2|h2
     · simp at h2
     · cases r with
       |nil=>rfl
       |cons a b=>simp at h2
   · rintro⟨_,h1,h3,h2⟩;refine⟨⟨by omega, ?_⟩,h3⟩
     by_cases hc:c=48
     · right
       have:=h2 c rfl hc;have hr:r= []:=Yde.1 (by omega)
       subst hr;rfl
     · left;simp[hc]
theorem Zqc (l:List UInt8) (h:Zld l=true):atoiAll l= .ok (val l):=by
 obtain⟨hne,hlen,hd,_⟩:=(Zit l).1 h;cases l with
 |nil=>exact absurd rfl hne
 | cons c r=>
   have hc:=(Zhj c).1 (by simp only[Ydd,Yaq]at hd;exact hd.1)
   have hp:10^(c::r).length≤10^10:=Yfe (by decide) hlen
   have hv:=Zais (c::r) hd;have e:parseUint10 0 (c::r)= .ok (val (c::r)):=Zri (c::r) 0 hd (by simpa using hp)
   unfold atoiAll;simp only;rw[Yab (by omega)]
   unfold parseMag;rw[Yab (by simp),e]
   simp only;rw[Yab (by omega),Yab (by omega),Yab (by omega)]
theorem Zxm (l:List UInt8) (n:Int) (h0:0≤n) (hlen:l.length≤10) (h:itoa n=l):Zld l=true∧n=val l:=by
 unfold itoa at h;rw[Yab (by omega)]at h
 subst h;refine⟨?_,by rw[Zbfo];omega⟩
 rw[Zit];refine⟨Zbaj _,hlen,Zajr _, ?_⟩;intro c hc h48;by_cases hn:n.toNat=0
 · rw[hn,decDigits];rfl
 · exact absurd h48 (Zawc _ hn c hc)
theorem Zaxg (l:List UInt8) (h:Zld l=true):itoa (val l)=l:=by
 obtain⟨hne,_,hd,h0⟩:=(Zit l).1 h;unfold itoa;rw[Yab (by omega)]
 exact Zbbx l hne hd h0
theorem Zls {l:List UInt8} (h:Zld l=true):num l=val l:=by unfold num;rw[Yam h]
theorem Zmq {l:List UInt8} (h:Zld l=false):num l= -1:=by unfold num;simp[h]
def ahead (p:List UInt8):List (List UInt8)→List (List UInt8)
 | []=> [p]
 |h::t=>(p++h)::t
def parts (at':UInt8):List UInt8→List (List UInt8)
 | []=> [[]]
 |c::r=>if c=at' then []::parts at' r else ahead [c] (parts at' r)
theorem Zpg (s:UInt8):parts s []= [[]]:=rfl
theorem Zmt (s:UInt8) (r:List UInt8):parts s (s::r)= []::parts s r:=by rw[parts,Yam rfl]
theorem Zfb (s c:UInt8) (r:List UInt8) (h:c≠s):parts s (c::r)=ahead [c] (parts s r):=by rw[parts,Yab h]
theorem Zpf (s:UInt8) (l:List UInt8):parts s l≠ []:=by
 cases l with
 |nil=>simp[Zpg]
 | cons c r=>
   by_cases h:c=s
   · subst h;rw[Zmt];simp
   · rw[Zfb s c r h];cases parts s r<;>simp[ahead]
theorem Zaaa (p:List UInt8) (L:List (List UInt8)) (h:L≠ []):(ahead p L).length=L.length:=by
 cases L with
 |nil=>exact absurd rfl h
 |cons a b=>rfl
theorem Zmu (s:UInt8) (a:List UInt8) (h:s∉a):parts s a= [a]:=by
 induction a with
 |nil=>rfl
 | cons c r ih=>
   simp only[Yav,not_or]at h;rw[Zfb s c r (fun e=>h.1 e.symm),ih h.2];rfl
theorem Zem (s:UInt8) (a r:List UInt8) (h:s∉a):parts s (a++s::r)=a::parts s r:=by
 induction a with
 |nil=>exact Zmt s r
 | cons c a ih=>
   simp only[Yav,not_or]at h;rw[Ycn,Zfb s c _ (fun e=>h.1 e.symm),ih h.2];rfl
def glue (s:UInt8):List (List UInt8)→List UInt8
 | []=> []
 | [a]=>a
 |a::b::r=>a++s::glue s (b::r)
theorem Zyd (s:UInt8) (a:List UInt8):glue s [a]=a:=rfl
theorem glue_more (s:UInt8) (a b:List UInt8) (r:List (List UInt8)):glue s (a::b::r)=a++s::glue s (b::r):=rfl
theorem Zaok (s:UInt8) (a:List UInt8) (L:List (List UInt8)) (h:L≠ []):glue s (a::L)=a++s::glue s L:=by
 cases L with
 |nil=>exact absurd rfl h
 |cons b r=>rfl
theorem Zake (s:UInt8) (p:List UInt8) (L:List (List UInt8)) (h:L≠ []):glue s (ahead p L)=p++glue s L:=by
 cases L with
 |nil=>exact absurd rfl h
 | cons a r=>
   cases r with
   |nil=>rfl
   |cons b r=>simp only[ahead,glue_more,Ybc]
theorem Zwb (s:UInt8) (l:List UInt8):glue s (parts s l)=l:=by
 induction l with
 |nil=>rfl
 | cons c r ih=>
   by_cases h:c=s
   · subst h;rw[Zmt,Zaok _ _ _ (Zpf c r),ih];rfl
   · rw[Zfb s c r h,Zake _ _ _ (Zpf s r),ih];rfl
theorem Zaqr (s:UInt8) (l p:List UInt8) (h:p∈parts s l):s∉p:=by
 induction l generalizing p with
 |nil=>simp only[Zpg,Ybu]at h;subst h;simp
 | cons c r ih=>
   by_cases hc:c=s
   · subst hc;rw[Zmt,Yav]at h;rcases h with h|h
     · subst h;simp
     · exact ih p h
   · rw [Zfb s c r hc]at h;cases hp:parts s r with
     |nil=>exact absurd hp (Zpf s r)
     | cons a b=>
       rw[hp]at h ih;simp only[ahead,Yav]at h;rcases h with h|h
       · subst h;have:=ih a (by simp)
         simp only[Ycn,List.nil_append,Yav,not_or];exact⟨fun e=>hc e.symm,this⟩
       · exact ih p (by simp[h])
def step (n:Int) (w:List UInt8):Int:=if n<0∨num w<0∨255<num w then -1 else 256*n+num w
def ip (l:List UInt8):Int:=match parts 46 l with
 | [a,b,c,d]=>step (step (step (step 0 a) b) c) d
 |_=> -1
theorem Zbds {n:Int} {w:List UInt8} (h:0≤step n w):0≤n∧0≤num w∧num w≤255∧step n w=256*n+num w:=by
 unfold step at h⊢;split at h
 · omega
 · rename_i hn;rw[Yab hn];omega
def right (n bits:Int):Bool:=decide (0≤n)&&decide (n<4294967296)&&decide (0≤bits)&&decide (bits≤32)&&decide (n.toNat%2^(32-bits.toNat)=0)
def good (n k:Int):Bool:=decide (0≤n)&&decide (0≤k)&&decide (k≤32)&&right n k
def pre (l:List UInt8):Int×Int:=match parts 47 l with
 | [a,b]=>if good (ip a) (num b)then(ip a,num b)else(-1,0)
 |_=>(-1,0)
def preCut (a b:List UInt8) (ok:Bool):Int×Int:=if ok&&good (ip a) (num b)then(ip a,num b)else(-1,0)
theorem good_right {n k:Int} (h:right n k=true):good n k=true:=by
 unfold good;simp only[h,Bool.and_true,Yaq,Yao];unfold right at h;simp only[Yaq,Yao]at h;omega
theorem Zayb (b:List UInt8) (c:UInt8) (hc:Zdy c=false) (h:c∈b):num b= -1:=by
 refine Zmq ?_;cases hb:Zld b with
 |false=>rfl
 | true=>
   have:=Ybt.1 ((Zit b).1 hb).2.2.1 c h;rw[hc]at this;cases this
theorem Zawx (n:Int):good n (-1)=false:=by simp[good]
theorem pre_hit (a b:List UInt8) (h:(47:UInt8)∉a):pre (a++47::b)=preCut a b true:=by
 unfold pre preCut;rw[Zem _ _ _ h,Ydw];by_cases hb:(47:UInt8)∈b
 · rw [Zayb b 47 (by decide) hb,Zawx]
   simp only[Yeb,if_false];cases hp:parts 47 b with
   |nil=>rfl
   | cons x y=>
     cases y with
     | nil=>
       exfalso;have:=Zwb 47 b;rw[hp,Zyd]at this;subst this;exact Zaqr 47 x x (by rw[hp];simp) hb
     |cons z t=>rfl
 · rw[Zmu _ _ hb]
theorem pre_miss (l:List UInt8) (h:(47:UInt8)∉l):pre l=(-1,0):=by unfold pre;rw[Zmu _ _ h]
theorem Zaxb (c:UInt8) (l:List UInt8):index (c::l) [c]=0:=by
 rw[index,Yam (by simp)]
theorem Zth (b c:UInt8) (l:List UInt8) (h:b≠c):index (b::l) [c]=if index l [c]== -1 then -1 else index l [c]+1:=by
 rw[index,Yab];simp only[List.isPrefixOf_cons_cons,Yaq,beq_iff_eq,not_and];intro e;exact absurd e.symm h
theorem index_miss (c:UInt8) (l:List UInt8) (h:c∉l):index l [c]= -1:=by
 induction l with
 |nil=>rfl
 | cons b r ih=>
   simp only[Yav,not_or]at h;rw[Zth b c r (fun e=>h.1 e.symm),ih h.2];rfl
theorem index_at (c:UInt8) (a r:List UInt8) (h:c∉a):index (a++c::r) [c]=a.length:=by
 induction a with
 |nil=>exact Zaxb c r
 | cons b a ih=>
   simp only[Yav,not_or]at h;rw[Ycn,Zth b c _ (fun e=>h.1 e.symm),ih h.2,Yab (by simp)]
   simp
theorem first_at (c:UInt8) (l:List UInt8) (h:c∈l): ∃ a r,l=a++c::r∧c∉a:=by
 induction l with
 |nil=>simp at h
 | cons b l ih=>
   by_cases e:b=c
   · subst e;exact⟨[],l,rfl,by simp⟩
   · simp only[Yav]at h;obtain⟨a,r,hl,ha⟩:=ih (h.resolve_left fun x=>e x.symm)
     refine⟨b::a,r,by rw[hl];rfl, ?_⟩
     simp only[Yav,not_or];exact⟨fun x=>e x.symm,ha⟩
theorem Zafq (c:UInt8) (a r:List UInt8):(a++c::r).take a.length=a:=by simp
theorem drop_at (c:UInt8) (a r:List UInt8):(a++c::r).drop (a.length+1)=r:=by
 rw[←List.drop_drop];simp
theorem cut_at (c:UInt8) (a r:List UInt8) (h:c∉a):cut (a++c::r) [c]=(a,r,true):=by
 unfold cut;rw[index_at c a r h,Yam (by omega),Ybr,Zafq,show [c].length=1 from rfl,drop_at]
theorem cut_miss (c:UInt8) (l:List UInt8) (h:c∉l):cut l [c]=(l,[],false):=by
 unfold cut;rw[index_miss c l h,Yab (by omega)]
theorem Zmi (c:UInt8) (l:List UInt8) (h:c∉l):count l [c]=0:=by
 rw[count_one];exact List.count_eq_zero.2 h
theorem Zagj (c:UInt8) (a r:List UInt8) (h:c∉a):count (a++c::r) [c]=count r [c]+1:=by
 rw[count_one,count_one,List.count_append,List.count_eq_zero.2 h,List.count_cons_self];omega
theorem Zasj (c:UInt8) (k:Nat) (a r:List UInt8) (h:c∉a):splitK [c] 0 (k+1) (a++c::r)=a::splitK [c] 0 k r:=by
 have e:=index_at c a r h;rw[splitK,e,Yab (by simp),Ybr,Ydy,Zafq,show [c].length=1 from rfl,drop_at]
theorem Zafk (c:UInt8) (l:List UInt8):split l [c]=parts c l:=by
 suffices h: ∀ (k:Nat) (l:List UInt8),l.length≤k→splitK [c] 0 (count l [c]) l=parts c l from h _ l (Yaf _)
 intro k
 induction k with
 | zero=>
   intro l hl;have:l= []:=Yde.1 (by omega)
   subst this;rw[Zmi c [] (by simp)];rfl
 | succ k ih=>
   intro l hl;by_cases hc:c∈l
   · obtain⟨a,r,rfl,ha⟩:=first_at c l hc;rw[Zagj c a r ha,Zasj c _ a r ha,Zem c a r ha,ih r (by simp at hl;omega)]
   · rw[Zmi c l hc,Zmu c l hc];rfl
theorem Zafd (c:UInt8) (k:Nat) (a r:List UInt8) (h:c∉a):replaceK [c] [] (k+1) (a++c::r)=a++replaceK [c] [] k r:=by
 have e:=index_at c a r h;rw[replaceK,e,Yab (by simp),Ybr,Zafq,show [c].length=1 from rfl,drop_at,Ybg]
theorem Zjw (c:UInt8) (a:List UInt8) (h:c∉a):a.filter (· !=c)=a:=by
 rw[Yee];intro b hb;simp only[bne_iff_ne,ne_eq];rintro rfl;exact h hb
theorem replace_filter (c:UInt8) (l:List UInt8):replaceAll l [c] []=l.filter (· !=c):=by
 suffices h: ∀ (k:Nat) (l:List UInt8),l.length≤k→replaceK [c] [] (count l [c]) l=l.filter (· !=c) by
  unfold replaceAll replace;rw[Yab (by simp)]
  unfold replaceNum;rw[Yam (Or.inl (by decide))]
  exact h _ l (Yaf _)
 intro k
 induction k with
 | zero=>
   intro l hl;have:l= []:=Yde.1 (by omega)
   subst this;rw[Zmi c [] (by simp)];rfl
 | succ k ih=>
   intro l hl;by_cases hc:c∈l
   · obtain⟨a,r,rfl,ha⟩:=first_at c l hc;rw[Zagj c a r ha,Zafd c _ a r ha,ih r (by simp at hl;omega),Yco,Zjw c a ha]
     simp
   · rw[Zmi c l hc,Zjw c l hc];rfl
theorem join_glue (c:UInt8) (L:List (List UInt8)):join L [c]=glue c L:=by
 unfold join
 induction L with
 |nil=>rfl
 | cons a r ih=>
   cases r with
   |nil=>simp[glue,List.intercalate]
   | cons b r=>
     rw[glue_more,←ih];simp[List.intercalate,List.intersperse]
end Adr
namespace Lx
open Go Go.Lib
def Zna (c:UInt8):Bool:=(decide (97≤c.toNat)&&decide (c.toNat≤122))||(decide (65≤c.toNat)&&decide (c.toNat≤90))||(decide (48≤c.toNat)&&decide (c.toNat≤57))||decide (0≤indexByte [45,95,46,47,58,42] c)
def runB:List UInt8→Nat
 | []=>0
 |c::l=>if Zna c then runB l+1 else 0
def Zaw:List UInt8:= [105,110,97,99,116,105,118,101,58]
def Zbk:List UInt8:= [112,114,111,116,101,99,116,58]
def markB (l:List UInt8):Bool:=decide (l=Zaw)||decide (l=Zbk)||hasPrefix l [47,42]
def Zbq:List UInt8→Option Nat
 | []=>none
 |c::l=>if c=92 then(match l with| []=>none|_::r=>(Zbq r).map (· +2))else if c=34 then some 1 else(Zbq l).map (· +1)
def Zet:List UInt8→Nat
 | []=>0
 |c::l=>if c=34 then(match Zbq l with|some n=>n+1|none=>0)else runB (c::l)
def hexL:List UInt8:= [48,49,50,51,52,53,54,55,56,57,97,98,99,100,101,102]
def Zcm:List UInt8→UInt8×Nat
 | []=>(0,0)
 | c::l=>
   if c=34∨c.toNat<32∨126<c.toNat then(0,0)
   else if c≠92 then(c,1)
   else match l with
    | []=>(0,0)
    | d::r=>
      if d=34∨d=92 then(d,2)
      else if d≠120 then(0,0)
      else match r with
       |x::y::_=>if indexByte hexL x<0∨indexByte hexL y<0 then(0,0)else(UInt8.ofNat ((indexByte hexL x).toNat *16+(indexByte hexL y).toNat),4)
       |_=>(0,0)
def Zew:Nat→List UInt8→Option (List UInt8)
 |_,[]=>some []
 |0,_::_=>none
 |f+1,c::l=>if(Zcm (c::l)).2=0 then none else(Zew f ((c::l).drop (Zcm (c::l)).2)).map ((Zcm (c::l)).1:: ·)
def unqB (l:List UInt8):List UInt8×Int:=
 let r:Option (List UInt8):=
  if decide (1<l.length)&&decide (l.getD 0 0=34)&&decide (l.getD (l.length-1) 0=34)then Zew l.length ((l.drop 1).take (l.length-2))
  else if decide (l≠ [])&&decide (runB l=l.length)&& !(markB l)then some l else none
 match r with
 |none=>([],2)
 |some s=>if 40<s.length then([],5)else(s,0)
structure Tok where
 kind:Int
 at_:Int
 word:ByteArray
 bit:Int
def Zjn (c:UInt8):Int:=if c=123 then 2 else if c=125 then 3 else if c=59 then 4 else 0
def bitB (l:List UInt8):Int:=if l=Zaw then 1 else if l=Zbk then 2 else 0
def Zeg (c:UInt8):Bool:=c==32||c==9||c==10||c==13
def comB (s:List UInt8) (p:Nat):Int:=
 let t:=s.drop p
 if hasPrefix t [35]then(if indexByte t 10<0 then(s.length:Int)else(p:Int)+indexByte t 10)
 else if hasPrefix t [47,42]then(if index (t.drop 2) [42,47]<0 then -1 else(p:Int)+index (t.drop 2) [42,47]+4)
 else(p:Int)
def Zar (s:List UInt8):Nat→Nat→Nat×Bool
 |0,p=>(p,true)
 | f+1,p=>
   if p<s.length then
    if Zeg (s.getD p 0)then Zar s f (p+1)
    else if comB s p<0 then(p,false)
    else if comB s p=(p:Int)then(p,true)
    else Zar s f (comB s p).toNat
   else(p,true)
def tokB (s:List UInt8) (p:Nat):Tok×Nat×Int:=
 if 0<Zjn (s.getD p 0)then(⟨Zjn (s.getD p 0),p,⟨#[]⟩,0⟩,p+1,0)
 else if Zet (s.drop p)=0 then(⟨0,0,⟨#[]⟩,0⟩,0,2)
 else
  let t:=(s.drop p).take (Zet (s.drop p))
  if 0<bitB t then(⟨5,p,⟨#[]⟩,bitB t⟩,p+Zet (s.drop p),0)
  else(⟨1,p,⟨(unqB t).1.toArray⟩,0⟩,p+Zet (s.drop p),(unqB t).2)
def Zjr (s:List UInt8):Nat→Nat→List Tok→List Tok×Nat×Int
 |0,_,out=>(out,0,0)
 | f+1,p,out=>
   let b:=Zar s (s.length+1) p
   if b.2=false then([],b.1,2)
   else if b.1=s.length then(out,0,0)
   else
    let t:=tokB s b.1
    if t.2.2≠0 then([],b.1,t.2.2)else Zjr s f t.2.1 (out++ [t.1])
def allB (s:List UInt8):List Tok×Nat×Int:=Zjr s (s.length+1) 0 []
theorem Zaff: ∀ l:List UInt8,runB l≤l.length
 | []=>Yaf _
 | c::l=>by
   unfold runB;have:=Zaff l;split
   · simp;omega
   · simp
theorem Ztz: ∀ (l:List UInt8) (n:Nat),Zbq l=some n→1≤n∧n≤l.length
 | [],n,h=>by simp[Zbq]at h
 | [c],n,h=>by
   unfold Zbq at h;split at h
   · simp at h
   · split at h
     · simp at h;simp;omega
     · simp[Zbq]at h
 | c ::d::r,n,h=>by
   unfold Zbq at h;split at h
   · cases hq:Zbq r with
     |none=>simp[hq]at h
     |some m=>have:=Ztz r m hq;simp[hq]at h;simp;omega
   · split at h
     · simp at h;simp;omega
     · cases hq:Zbq (d::r)with
       |none=>simp[hq]at h
       |some m=>have:=Ztz (d::r) m hq;simp[hq]at h;simp at this⊢;omega
theorem Zzj (l:List UInt8):Zet l≤l.length:=by
 cases l with
 |nil=>exact Yaf _
 | cons c l=>
   show(if c=34 then(match Zbq l with|some n=>n+1|none=>0)else runB (c::l))≤_
   by_cases h:c=34
   · rw[Yam h];cases hq:Zbq l with
     |none=>simp
     |some n=>have:=Ztz l n hq;simp;omega
   · rw[Yab h];exact Zaff _
theorem Zrf (l:List UInt8) (c:UInt8):indexByte l c<(l.length:Int)∨indexByte l c= -1:=by
 by_cases h:c∈l
 · left
   rw[←index_one];obtain⟨a,r,rfl,ha⟩:=Adr.first_at c l h;rw[Adr.index_at c a r ha];simp;omega
 · right
   rw[←index_one];exact Adr.index_miss c l h
theorem Zabh (l:List UInt8) (c:UInt8):indexByte l c≤(l.length:Int):=by
 rcases Zrf l c with h|h<;>omega
end Lx
namespace Go.Proofs.Zq
open Tryz
open Go.RowKit
theorem gPow:prog.globalNamed "internal/strconv.uint64pow10" =some 6:=by kernel_rfl
structure Env (w:World):Prop where
 mx: ∃ m:Int,w.cell? ⟨0,0,none⟩=some (.int .i64 m)
 es: ∃ tp p,w.cell? ⟨4,0,none⟩=some (.iface tp p)
 er: ∃ tp p,w.cell? ⟨5,0,none⟩=some (.iface tp p)
 tb:Lib.TabIs prog w "internal/strconv.uint64pow10" .u64 Lib.pow10Tab
theorem Env.below {w w':World} (h:Env w) (hb:Below w.heap.size w w'):Env w':=by
 obtain⟨⟨m,hm⟩,⟨t1,p1,h1⟩,⟨t2,p2,h2⟩,ht⟩:=h;have hz:=ht.cell gPow 0 (by decide)
 exact⟨⟨m,(hb.cell (Lib.lt_of_cell hm)).trans hm⟩,⟨t1,p1,(hb.cell (Lib.lt_of_cell h1)).trans h1⟩,⟨t2,p2,(hb.cell (Lib.lt_of_cell h2)).trans h2⟩,var?_below hb gPow (Lib.lt_of_cell hz) ht⟩
theorem Zaa {w a b:World} (h:Below w.heap.size w a) (k:Below a.heap.size a b):Below w.heap.size w b:=h.trans (k.mono h.size)
theorem Znk {w:World} (n:Nat):Below w.heap.size w (w.drewN n):=below_drewN (Yag _ _) n
theorem Env.drewN {w:World} (h:Env w) (n:Nat):Env (w.drewN n):=h.below (Znk n)
theorem mk_data (s:ByteArray):(⟨s.data.toList.toArray⟩:ByteArray)=s:=by cases s;simp
theorem Zcw (l:List UInt8):(⟨l.toArray⟩:ByteArray).data.toList=l:=by simp
theorem Zfs (l:List UInt8):(⟨l.toArray⟩:ByteArray).size=l.length:=by simp[ByteArray.size]
theorem Zak (s:ByteArray):s.data.toList.length=s.size:=by simp
open Go
theorem Zhc (a:Addr) (n:Nat):(a.add n).block=a.block:=by unfold Addr.add;split<;>rfl
theorem Zamp (a:Addr) (i j:Nat):(a.add i).add j=a.add (i+j):=by
 unfold Addr.add;by_cases hi:i=0
 · simp[hi]
 · by_cases hj:j=0
   · simp[hi,hj]
   · simp[hi,hj,Nat.add_assoc]
theorem Zag (b o j:Nat):(⟨b,o,none⟩:Addr).add j=⟨b,o+j,none⟩:=by
 unfold Addr.add;split
 · subst_vars;rfl
 · rfl
def Rd (w:World) (k:Nat) (A:Option Addr) (n:Nat) (xs:List Value):Prop:=
 xs.length=n*k∧(0<n→ ∃ ad,A=some ad∧ad.block<w.heap.size∧ ∀ j u,xs[j]?=some u→w.cell? (ad.add j)=some u)
section
variable {w w':World} {k n:Nat} {A:Option Addr} {xs:List Value}
theorem Rd.nil:Rd w k A 0 []:=⟨by simp,fun h=>absurd h (by omega)⟩
theorem Rd.keep (h:Rd w k A n xs) (hs:w.heap.size≤w'.heap.size) (hc: ∀ p:Addr,p.block<w.heap.size→w'.cell? p=w.cell? p):Rd w' k A n xs:=
 ⟨h.1,fun hn=>by
  obtain⟨ad,e,hb,hx⟩:=h.2 hn;exact⟨ad,e,Ycc hb hs,fun j u hu=>(hc _ (by rw[Zhc];exact hb)).trans (hx j u hu)⟩⟩
theorem Rd.below (h:Rd w k A n xs) (hb:Below w.heap.size w w'):Rd w' k A n xs:=h.keep hb.size fun _ hp=>hb.cell hp
theorem Rd.drew (h:Rd w k A n xs):Rd w.drew k A n xs:=h
theorem Rd.drewN (h:Rd w k A n xs) (m:Nat):Rd (w.drewN m) k A n xs:=h
theorem Rd.alloc (h:Rd w k A n xs) (o:Obj):Rd (w.alloc o) k A n xs:=h.keep (by simp) fun p hp=>World.cell?_alloc_lt w o p hp
theorem Rd.cell (h:Rd w k A n xs) {j:Nat} {u:Value} (hu:xs[j]?=some u): ∃ ad,A=some ad∧ad.block<w.heap.size∧w.cell? (ad.add j)=some u:=by
 have hj:j<xs.length:=(Ybb.1 hu).1
 obtain⟨ad,e,hb,hx⟩:=h.2 (by
  rcases Ybj n with h0|h0
  · rw[h.1,h0]at hj;omega
  · exact h0)
 exact⟨ad,e,hb,hx j u hu⟩
theorem Rd.of_own {base:Nat} {e:TypeId} {c:Nat} (h:w.ownsRow base e k (.slice A n c) n xs):Rd w k A n xs:=by
 refine⟨h.1,fun hn=> ?_⟩
 rcases h.2 with⟨hv,h0⟩|⟨g,cap,cur,hv,_,hh,_⟩
 · omega
 · injection hv with hA
   subst hA;refine⟨_,rfl, ?_,h.cells (g:=g) rfl⟩;rcases Ybp g w.heap.size with hlt|hge
   · exact hlt
   · rw[Yeh hge]at hh;cases hh
theorem Zbj {base:Nat} {e:TypeId} {v:Value} (h:w.ownsRow base e k v n xs): ∃ A c,v= .slice A n c∧n≤c∧c≤maxLen∧Rd w k A n xs:=by
 rcases h.2 with⟨rfl,rfl⟩|⟨g,cap,cur,rfl,hg,hh,hnc,hcm,hsz,ht⟩
 · exact⟨none,0,rfl,Yaf _,by unfold maxLen;omega,Rd.of_own (base:=base) (e:=e) (c:=0) h⟩
 · exact⟨some ⟨g,0,none⟩,cap,rfl,hnc,hcm,Rd.of_own h⟩
end
theorem Zai {w w':World} {base:Nat} {e:TypeId} {k:Nat} {v:Value} {n:Nat} {xs:List Value} (h:w.ownsRow base e k v n xs) (hb:Below w.heap.size w w'):w'.ownsRow base e k v n xs:=
 h.kept (row:=none) ⟨hb.os,hb.tape,hb.output,hb.size,fun i hi _=>hb.block i hi⟩ (by
  cases hv:v.ownBlock with
  |none=>exact .inl rfl
  |some g=>exact .inr (by simp))
theorem Zfv {P:Program} {ops:Array Oper} {rest:List Oper} {o:Oper} {a:Act} {Q:Exit→Act→World→Prop} (hgd:o.guard=none) (s x:Operand) (t:TypeId)
 (ho:o.op= .call {callee:= .builtin .append,args:= #[s,x],argTypes:= #[t,t]})
 (w0 wr:World) (e:TypeId) (i:TypeInfo) (z:Value) (size bytes:Nat) (ht:P.underlying t=some (.slice e)) (hi:P.info? e=some i) (hz:i.zero=some z)
 (hsize:i.size=size) (hby:i.bytes=bytes) (hzs:z.cells.size=size) (hsz:0<size) (hb64:bytes≤64)
 {v:Value} {n:Nat} {xs:List Value} (hown:wr.ownsRow w0.heap.size e size v n xs) (hb:Below w0.heap.size w0 wr) (hs:a.eval s=v)
 (m c:Nat) (news:List Value) (hx:a.eval x= .slice (some ⟨wr.heap.size,0,none⟩) m c) (hl:news.length=m*size) (h1: ∀ u∈news,u.oneCell'=true)
 (hN:n+m≤1000000000)
 (h: ∀ v' w',w'.ownsRow w0.heap.size e size v' (n+m) (xs++news)→Below w0.heap.size w0 w'→wpList P ops Q rest (a.put o.dst v') w'):
 wpList P ops Q (o::rest) a (wr.alloc (.cells news.toArray e)):=by
 have hbytes:(n+m)*bytes≤140737488355328:=Yat (Ydj hN hb64) (by decide)
 refine wpList_append_own _ hgd s x t ho w0.heap.size e i z size bytes ht hi hz hsize hby hzs hsz v n xs hs (hown.alloc _) ⟨wr.heap.size,0,none⟩ m c news hx hl ?_ h1 (by unfold maxLen;omega) hbytes (Yat hb.size (by simp)) ?_
 · intro j u hu;have hj:j<news.length:=(Ybb.1 hu).1;rw[Zag,Ybi,World.cell?_alloc_at _ _ _ _ rfl];simpa using hu
 · intro v' w' hown' hg _;refine h v' w' hown' ((hb.alloc hb.size _).grown hg (Yat hb.size (by simp)) fun q hq=>(hown.lt q hq).1)
theorem Zazj {P:Program} {ops:Array Oper} {o:Oper} {a:Act} {K:Act→World→Prop} {Q:Exit→Act→World→Prop} {E:Prop} (hgd:o.guard=none) (s x:Operand) (t:TypeId)
 (ho:o.op= .call {callee:= .builtin .append,args:= #[s,x],argTypes:= #[t,t]})
 (w0:World) {wr:World} (e:TypeId) (i:TypeInfo) (z:Value) (size bytes:Nat) (ht:P.underlying t=some (.slice e)) (hi:P.info? e=some i) (hz:i.zero=some z)
 (hsize:i.size=size) (hby:i.bytes=bytes) (hzs:z.cells.size=size) (hsz:0<size) (hb64:bytes≤64)
 {v:Value} {n:Nat} {xs:List Value} (hown:wr.ownsRow w0.heap.size e size v n xs) (hb:Below w0.heap.size w0 wr) (hs:a.eval s=v)
 (ad:Addr) (m c:Nat) (news:List Value) (hx:a.eval x= .slice (some ad) m c) (hl:news.length=m*size) (hnews: ∀ j u,news[j]?=some u→wr.cell? (ad.add j)=some u) (h1: ∀ u∈news,u.oneCell'=true)
 (hN:n+m≤1000000000)
 (h: ∀ v' w',w'.ownsRow w0.heap.size e size v' (n+m) (xs++news)→Below w0.heap.size w0 w'→K (a.put o.dst v') w'):
 if Region.wanted o (yielded ops a.tmps)=true then Oper.wp P o a wr K Q else E:=by
 have hw:Region.wanted o (yielded ops a.tmps)=true:=by simp[Region.wanted,hgd]
 have hbytes:(n+m)*bytes≤140737488355328:=Yat (Ydj hN hb64) (by decide)
 rw[Yam hw]
 exact wp_append_own wr s x t ho w0.heap.size e i z size bytes ht hi hz hsize hby hzs hsz v n xs hs hown ad m c news hx hl hnews h1 (by unfold maxLen;omega) hbytes hb.size
  fun v' w' hown' hg _=>h v' w' hown' (hb.grown hg hb.size fun q hq=>(hown.lt q hq).1)
def strs (L:List (List UInt8)):List Value:=L.map fun l=> .string ⟨l.toArray⟩
theorem Zuu (L:List (List UInt8)):(strs L).length=L.length:=by unfold strs;simp
theorem Zafm (L M:List (List UInt8)):strs (L++M)=strs L++strs M:=by unfold strs;simp
theorem Zaim {L:List (List UInt8)} {j:Nat} (h:j<L.length):(strs L)[j]?=some (.string ⟨(L[j]).toArray⟩):=by unfold strs;simp[h]
theorem Zafn (L:List ByteArray):L.map Value.string=strs (L.map (·.data.toList)):=by
 unfold strs;rw[Yes];congr 1
end Go.Proofs.Zq
namespace Adr
def isIn (n bits ip:Int):Bool:=right n bits&&decide (0≤ip)&&decide (ip<4294967296)&&decide (ip.toNat/2^(32-bits.toNat)=n.toNat/2^(32-bits.toNat))
open Go Go.RowKit
theorem Zjb (a:Nat) (ha:a<18446744073709551616):(BitVec.ofInt 64 (a:Int)).toNat=a:=by
 rw[BitVec.ofInt_natCast,BitVec.toNat_ofNat];exact Nat.mod_eq_of_lt (by omega)
theorem Zzr (a:Nat) (ha:a<9223372036854775808):IntKind.i64.wrap (a:Int)=a:=IntWalk.i64_in _ (by omega)
theorem and_nat (a b:Nat) (ha:a<9223372036854775808) (hb:b<9223372036854775808):bits .and .i64 (a:Int) (b:Int)=((a&&&b:Nat):Int):=by
 have hx:a&&&b≤a:=Nat.and_le_left;show IntKind.i64.wrap ((BitVec.ofInt 64 (a:Int)&&&BitVec.ofInt 64 (b:Int)).toNat:Int)=_;rw[BitVec.toNat_and,Zjb a (by omega),Zjb b (by omega),Zzr _ (by omega)]
theorem Zaiz (a b:Nat) (ha:a<9223372036854775808) (hb:b<9223372036854775808):bits .andNot .i64 (a:Int) (b:Int)=((a&&&(18446744073709551615-b):Nat):Int):=by
 have hx:a&&&(18446744073709551615-b)≤a:=Nat.and_le_left;show IntKind.i64.wrap ((BitVec.ofInt 64 (a:Int)&&& ~~~BitVec.ofInt 64 (b:Int)).toNat:Int)=_;rw[BitVec.toNat_and,BitVec.toNat_not,Zjb a (by omega),Zjb b (by omega)]
 have e:2^64-1-b=18446744073709551615-b:=by omega
 rw[e,Zzr _ (by omega)]
def restV (n:Int):Int:=((2^(32-n.toNat)-1:Nat):Int)
theorem Zahv (k:Nat) (h:k≤32):1≤2^k∧2^k≤4294967296:=by
 refine⟨Nat.one_le_pow _ _ (by decide), ?_⟩
 have:=Yfe (n:=2) (by decide) h
 simpa using this
theorem rest_val (n:Int) (h0:0≤n) (h:n≤32):wrap64 (wrap64 (2^(32-n).toNat)-1)=restV n:=by
 obtain⟨k,rfl⟩:=Yci h0;have hp:=Zahv (32-k) (by omega)
 have e1:(32-(k:Int)).toNat=32-k:=by omega
 have e2:((2:Int)^(32-k))=((2^(32-k):Nat):Int):=by simp
 rw[e1,e2];unfold restV;rw[Ybr];generalize 2^(32-k)=m at *;have e3:wrap64 (m:Int)=m:=IntWalk.wrap64_in _ (by omega)
 rw[e3,IntWalk.wrap64_in _ (by omega)]
 omega
theorem Zats (n b:Int) (h0:0≤n) (h1:n<4294967296) (hb0:0≤b) (hb:b≤32):bits .and .i64 n (restV b)=((n.toNat%2^(32-b.toNat):Nat):Int):=by
 obtain⟨a,rfl⟩:=Yci h0;have hp:=Zahv (32-b.toNat) (by omega)
 unfold restV;rw[and_nat a _ (by omega) (by omega),Yet,Ybr]
theorem Zadf (n b:Int) (h0:0≤n) (h1:n<4294967296) (hb0:0≤b) (hb:b≤32):bits .andNot .i64 n (restV b)=((n.toNat/2^(32-b.toNat)*2^(32-b.toNat):Nat):Int):=by
 obtain⟨a,rfl⟩:=Yci h0;have hp:=Zahv (32-b.toNat) (by omega)
 have hk:32-b.toNat≤64:=by omega
 unfold restV;rw[Zaiz a _ (by omega) (by omega),Ybr]
 have e:18446744073709551615-(2^(32-b.toNat)-1)=2^64-2^(32-b.toNat):=by omega
 rw[e,nat_midmask 64 _ a hk,Nat.mod_eq_of_lt (by omega)]
theorem right_bits (n b:Int) (h0:0≤n) (h1:n<4294967296) (hb0:0≤b) (hb:b≤32):(bits .and .i64 n (restV b)==0)=right n b:=by
 rw[Zats n b h0 h1 hb0 hb,Yby];unfold right;simp only[beq_iff_eq,Yaq,Yao];omega
theorem right_not {n b:Int} (h: ¬ (0≤n∧n<4294967296∧0≤b∧b≤32)):right n b=false:=by
 unfold right;rw[Yda];simp only[ne_eq,Yaq,Yao];omega
theorem right_bd {n b:Int} (h:right n b=true):0≤n∧n<4294967296∧0≤b∧b≤32∧n.toNat%2^(32-b.toNat)=0:=by
 unfold right at h;simp only[Yaq,Yao]at h;omega
theorem in_bits (n b ip:Int) (hr:right n b=true) (h0:0≤ip) (h1:ip<4294967296):(bits .andNot .i64 ip (restV b)==n)=isIn n b ip:=by
 obtain⟨n0,n1,b0,b1,hm⟩:=right_bd hr;rw[Zadf ip b h0 h1 b0 b1,Yby];unfold isIn;rw[hr];simp only[beq_iff_eq,Yaq,Yao,Ydw];obtain⟨a,rfl⟩:=Yci n0;rw[Ybr]at hm⊢;have hp:=Zahv (32-b.toNat) (by omega)
 have hd:=Nat.div_add_mod a (2^(32-b.toNat));generalize 2^(32-b.toNat)=m at *;rw[hm,Ydy]at hd;constructor
 · intro h;refine⟨⟨h0,h1⟩, ?_⟩;have:ip.toNat/m*m=a:=by omega
   rw[←this,Nat.mul_div_cancel _ (by omega)]
 · rintro⟨_,h⟩;rw[h,Yfa];omega
def pw (n:Int):Int:=((2^n.toNat:Nat):Int)
theorem isIn_not {n b ip:Int} (h: ¬ (right n b=true∧0≤ip∧ip<4294967296)):isIn n b ip=false:=by
 unfold isIn;rw[Yda];simp only[ne_eq,Yaq,Yao];rintro⟨⟨⟨a,c⟩,d⟩,_⟩;exact h ⟨a,c,d⟩
end Adr
