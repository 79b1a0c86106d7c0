import Derived.Lib.AtoiAllCases
import Derived.Deep.RegionHeld3
import Derived.BigRegion
import Derived.Deep.RegionLaw
import Derived.Deep.AppendLies
import Derived.Shelf.Strings.SlTrimAscii
import Derived.Test.YtkbojechhmmkcaaGreatDoorK02
set_option linter.unusedVariables false
set_option linter.unusedSimpArgs false
set_option maxHeartbeats 2000000
set_option maxRecDepth 100000
namespace Adr
open Go Go.Lib
def numIn (l:List UInt8) (least most:Int):Bool:=decide (0≤num l)&&decide (least≤num l)&&decide (num l≤most)
theorem numIn_iff (l:List UInt8) (least most:Int):numIn l least most=true↔0≤num l∧least≤num l∧num l≤most:=by
 unfold numIn;simp only[Yaq,Yao];omega
theorem numIn_not {l:List UInt8} {least most:Int} (h: ¬ (0≤num l∧least≤num l∧num l≤most)):numIn l least most=false:=by
 rw[Yda];exact fun e=>h ((numIn_iff _ _ _).1 e)
theorem num_bad (l:List UInt8) (h: ∀ v,atoiAll l≠ .ok v):num l= -1:=by
 refine Zmq ?_;rw[Yda];exact fun e=>h _ (Zqc l e)
theorem num_ok (l:List UInt8) (v:Int) (h:atoiAll l= .ok v):(num l=v∧l.length≤10∧0≤v∧itoa v=l)∨(num l= -1∧(10<l.length∨v<0∨itoa v≠l)):=by
 cases hc:Zld l with
 | true=>
   left
   have h1:=Zqc l hc;rw[h]at h1;injection h1 with h1
   subst h1;exact⟨Zls hc,((Zit l).1 hc).2.1,by omega,Zaxg l hc⟩
 | false=>
   right
   refine⟨Zmq hc, ?_⟩;by_cases h1:10<l.length
   · exact .inl h1
   · by_cases h2:v<0
     · exact .inr (.inl h2)
     · refine .inr (.inr fun e=> ?_)
       rw[(Zxm l v (by omega) (by omega) e).1]at hc
       cases hc
end Adr
namespace Go.Proofs.Zq
open Tryz
open Go.RowKit
def Zni (s:ByteArray) (least most:Int):Value:= .tuple #[.int .i64 (if Adr.numIn s.data.toList least most then Adr.num s.data.toList else 0), .bool (Adr.numIn s.data.toList least most)]
theorem Zqp {s:ByteArray} {least most:Int} (h:Adr.numIn s.data.toList least most=true):Zni s least most= .tuple #[.int .i64 (Adr.num s.data.toList), .bool true]:=by
 unfold Zni;rw[h];rfl
theorem Zlr {s:ByteArray} {least most:Int} (h:Adr.numIn s.data.toList least most=false):Zni s least most= .tuple #[.int .i64 0, .bool false]:=by
 unfold Zni;rw[h];rfl
theorem Zxj (s:ByteArray) (w:World) (hE:Env w) (hs:s.size≤281474976710656) (h: ∀ v,Lib.atoiAll s.data.toList≠ .ok v):
 Calls prog 232 #[.string s] w fun e w'=> ∃ v p,e= .returned (.tuple #[.int .i64 v, .iface 291 p])∧Below w.heap.size w w':=by
 rcases hA:Lib.atoiAll s.data.toList with v|_|_
 · exact absurd hA (h v)
 · obtain⟨tp,p,hv⟩:=hE.es;exact(Any.strconv_Atoi_syntax Tryz.laysC172 s hs hA _ w hv (.inr ⟨tp,p,rfl⟩)).mono fun _ _ ⟨N,he,_,_,hb⟩=>⟨_,_,he,hb⟩
 · obtain⟨tp,p,hv⟩:=hE.er;exact(Any.strconv_Atoi_range Tryz.laysC172 s hs hA _ w hv (.inr ⟨tp,p,rfl⟩)).mono fun _ _ ⟨N,he,_,_,hb⟩=>⟨_,_,he,hb⟩
theorem Zig (s:ByteArray) (w:World) (v:Int) (hs:s.size≤281474976710656) (h:Lib.atoiAll s.data.toList= .ok v):
 Calls prog 232 #[.string s] w fun e w'=>e= .returned (.tuple #[.int .i64 v, .nilIface])∧Below w.heap.size w w':=
 (Tryz.strconv_Atoi_ok s (by omega) v h w).mono fun _ _ ⟨he,hw⟩=>⟨he,by
  rcases hw with rfl|⟨t,rfl⟩
  · exact Yag _ _
  · exact Lib.bytesWorld_below _ _ _⟩
theorem Zyl (n:Int) (w:World) (hE:Env w) (h0: -9223372036854775808≤n) (h1:n≤9223372036854775807):
 Calls prog 233 #[.int .i64 n] w fun e w'=>e= .returned (.string ⟨(Lib.itoa n).toArray⟩)∧Below w.heap.size w w':=
 (Tryz.strconv_Itoa n h0 h1 w hE.tb).mono fun _ _ ⟨he,k,os,hw⟩=>⟨he,by rw[hw];exact Lib.below_grow _ _ (Yaf _) _ _⟩
theorem Zbat {l:List UInt8} {s:ByteArray} (h:l≠s.data.toList):(l==s.toList)=false:=by
 rw[Yak,Lib.toList_data];exact h
theorem Zqq (s:ByteArray) (least most:Int) (w:World) (hE:Env w) (hs:s.size≤281474976710656):
 Calls prog 208 #[.string s, .int .i64 least, .int .i64 most] w fun e w'=>e= .returned (Zni s least most)∧Below w.heap.size w w':=by
 by_cases hok: ∃ v,Lib.atoiAll s.data.toList= .ok v
 · obtain ⟨v, hA⟩:=hok;obtain⟨hb0,hb1⟩:=Lib.atoiAll_bounds hA;have hsz:=Zak s;rcases Adr.num_ok _ _ hA with⟨hn,hl,hv0,hi⟩|⟨hn,hbad⟩
   · have HA:=Zhd hA;clear hA;have Hi:=Zhd hi;clear hi;rw[hsz]at hl;clear hsz;by_cases hin:least≤v∧v≤most
     · obtain⟨hi1,hi2⟩:=hin;have HR:=Zhd (Zqp ((Adr.numIn_iff s.data.toList least most).2 (by rw[hn];omega)))
       have Hn:=Zhd hn;clear hn;rcases Yfk least 0 with hneg|hneg
       all_goals
        go_enter func208,ntmps208;go_wp2_with fail;refine(Zig s _ v hs HA.out).mono ?_;rintro e w1 ⟨rfl,hb1'⟩;go_wp2_with fail;refine(Zyl v _ (hE.below hb1') hb0 hb1).mono ?_;rintro e w2 ⟨rfl,hb2'⟩;rw[Hi.out,mk_data];go_wp2_with fail;go_ret2;exact⟨by rw[HR.out,Hn.out];rfl,Zaa hb1' hb2'⟩
     · have HR:=Zhd (Zlr (Adr.numIn_not (l:=s.data.toList) (least:=least) (most:=most) (by rw[hn];omega)))
       have Hn:=Zhd hn;clear hn;by_cases hi1:least≤v
       · have hi2:most<v:=by omega
         clear hin;rcases Yfk least 0 with hneg|hneg
         all_goals
          go_enter func208,ntmps208;go_wp2_with fail;refine(Zig s _ v hs HA.out).mono ?_;rintro e w1 ⟨rfl,hb1'⟩;go_wp2_with fail;go_ret2;exact⟨by rw[HR.out];rfl,hb1'⟩
       · have hi2:v<least:=by omega
         have hneg:0≤least:=by omega
         clear hin hi1;go_enter func208,ntmps208;go_wp2_with fail;refine(Zig s _ v hs HA.out).mono ?_;rintro e w1 ⟨rfl,hb1'⟩;go_wp2_with fail;go_ret2;exact⟨by rw[HR.out];rfl,hb1'⟩
   · have HA :=Zhd hA;clear hA;have HR:=Zhd (Zlr (Adr.numIn_not (l:=s.data.toList) (least:=least) (most:=most) (by rw[hn];omega)))
     clear hn;rw[hsz]at hbad;clear hsz;by_cases hl:10<s.size
     · clear hbad;go_enter func208,ntmps208;go_wp2_with fail;refine(Zig s _ v hs HA.out).mono ?_;rintro e w1 ⟨rfl,hb1'⟩;go_wp2_with fail;go_ret2;exact⟨by rw[HR.out];rfl,hb1'⟩
     · have hl':s.size≤10:=by omega
       by_cases hv:v<0
       · clear hbad hl;rcases Yfk least 0 with hneg|hneg
         all_goals
          go_enter func208,ntmps208;go_wp2_with fail;refine(Zig s _ v hs HA.out).mono ?_;rintro e w1 ⟨rfl,hb1'⟩;go_wp2_with fail;go_ret2;exact⟨by rw[HR.out];rfl,hb1'⟩
       · have hv':0≤v:=by omega
         have hne:=Zhd (Zbat (hbad.resolve_left hl|>.resolve_left hv))
         clear hbad hl hv;rcases Yfk v least with h1|h1
         · have hneg:0≤least:=by omega
           go_enter func208,ntmps208;go_wp2_with fail;refine(Zig s _ v hs HA.out).mono ?_;rintro e w1 ⟨rfl,hb1'⟩;go_wp2_with fail;go_ret2;exact⟨by rw[HR.out];rfl,hb1'⟩
         · rcases Yfk most v with h2|h2
           · rcases Yfk least 0 with hneg|hneg
             all_goals
              go_enter func208,ntmps208;go_wp2_with fail;refine(Zig s _ v hs HA.out).mono ?_;rintro e w1 ⟨rfl,hb1'⟩;go_wp2_with fail;go_ret2;exact⟨by rw[HR.out];rfl,hb1'⟩
           · rcases Yfk least 0 with hneg|hneg
             all_goals
              go_enter func208,ntmps208;go_wp2_with fail;refine(Zig s _ v hs HA.out).mono ?_;rintro e w1 ⟨rfl,hb1'⟩;go_wp2_with fail;refine(Zyl v _ (hE.below hb1') hb0 hb1).mono ?_;rintro e w2 ⟨rfl,hb2'⟩;have hne':=hne.out;go_wp2_with fail;go_ret2;exact⟨by rw[HR.out];rfl,Zaa hb1' hb2'⟩
 · have HR:=Zhd (Zlr (Adr.numIn_not (l:=s.data.toList) (least:=least) (most:=most) (by rw[Adr.num_bad _ (fun v e=>hok ⟨v,e⟩)];omega)))
   go_enter func208,ntmps208;go_wp2_with fail;refine(Zxj s _ hE hs (fun v e=>hok ⟨v,e⟩)).mono ?_
   rintro e w1 ⟨v,p,rfl,hb1'⟩;clear hok;go_wp2_with fail;go_ret2;exact⟨by rw[HR.out];rfl,hb1'⟩
end Go.Proofs.Zq
namespace Adr
open Go Go.Lib
theorem splitB_parts (c:UInt8) (s:ByteArray):(splitB ⟨#[c]⟩ 0 (countB s ⟨#[c]⟩) s).map (·.data.toList)=parts c s.data.toList:=by
 rw[splitB_data,←Zafk];rfl
theorem countB_parts (c:UInt8) (s:ByteArray):countB s ⟨#[c]⟩+1=(parts c s.data.toList).length:=by
 rw[←splitB_parts,Yay,splitB_all ⟨#[c]⟩ (Yaf 1) 0 _ s rfl]
end Adr
namespace Go.Proofs.Zq
open Tryz
open Go.RowKit
theorem Zaco (s:ByteArray) (c:UInt8) (w:World) (hE:Env w) (hs:s.size≤100000000):
 Calls prog 96 #[.string s, .string ⟨#[c]⟩] w (Zxb w c s.data.toList):=by
 obtain⟨m,hm⟩:=hE.mx;refine(Tryz.strings_Split s ⟨#[c]⟩ m w (by omega) hm (Yaf 1)).mono fun e w' ⟨he,hw⟩=> ?_
 have hl:=Adr.parts_len c s.data.toList;rw[Zak]at hl;rw[Zafn,Adr.splitB_parts]at hw;have hc:=Adr.countB_parts c s;refine⟨some ⟨w.heap.size,0,none⟩,(Adr.parts c s.data.toList).length,by rw[he,hc],Yaf _,by unfold maxLen;omega,⟨by rw[Zuu];omega,fun _=>⟨_,rfl,by rw[hw];simp,fun j u hu=> ?_⟩⟩,by rw[hw];exact(Yag _ _).alloc (Yaf _) _⟩
 rw[hw,Zag,Ybi,World.cell?_alloc_at _ _ _ _ rfl];simpa using hu
theorem Zsy (s:ByteArray) (c:UInt8) (a r:List UInt8) (w:World) (hE:Env w) (hs:s.size≤100000000) (h:s.data.toList=a++c::r) (ha:c∉a):
 Calls prog 212 #[.string s, .string ⟨#[c]⟩] w fun e w'=>e= .returned (.tuple #[.string ⟨a.toArray⟩, .string ⟨r.toArray⟩, .bool true])∧Below w.heap.size w w':=by
 obtain⟨m,hm⟩:=hE.mx;refine(Tryz.strings_Cut s ⟨#[c]⟩ m w (by omega) hm).mono fun e w' ⟨he,n,hw⟩=> ?_
 have e1:Lib.cut s.data.toList (⟨#[c]⟩:ByteArray).data.toList=(a,r,true):=by rw[h];exact Adr.cut_at c a r ha
 rw[e1]at he;exact⟨he,by rw[hw];exact Znk n⟩
theorem Zbag (s:ByteArray) (c:UInt8) (w:World) (hE:Env w) (hs:s.size≤100000000) (h:c∉s.data.toList):
 Calls prog 212 #[.string s, .string ⟨#[c]⟩] w fun e w'=>e= .returned (.tuple #[.string s, .string ⟨#[]⟩, .bool false])∧Below w.heap.size w w':=by
 obtain⟨m,hm⟩:=hE.mx;refine(Tryz.strings_Cut s ⟨#[c]⟩ m w (by omega) hm).mono fun e w' ⟨he,n,hw⟩=> ?_
 have e1:Lib.cut s.data.toList (⟨#[c]⟩:ByteArray).data.toList=(s.data.toList,[],false):=Adr.cut_miss c _ h;rw[e1,Lib.mk_data]at he;exact⟨he,by rw[hw];exact Znk n⟩
theorem Zpr (s:ByteArray) (c:UInt8) (w:World) (hE:Env w) (hs:s.size≤100000000):
 Calls prog 230 #[.string s, .string ⟨#[c]⟩, .string ⟨#[]⟩] w fun e w'=>e= .returned (.string ⟨(Lib.replaceAll s.data.toList [c] []).toArray⟩)∧Below w.heap.size w w':=by
 obtain⟨m,hm⟩:=hE.mx;exact Tryz.strings_ReplaceAll s ⟨#[c]⟩ ⟨#[]⟩ m w (by omega) hm (Yaf 1) (by show s.size+_*0≤_;omega)
theorem Zasp (l:List UInt8) (c:UInt8):(Lib.replaceAll l [c] []).length≤l.length:=by
 rw[Adr.replace_filter];exact Yck _ _
theorem Zawu (c:UInt8) (L:List (List UInt8)) (n:Nat) (h: ∀ p∈L,p.length≤n):(Adr.glue c L).length≤L.length*(n+1):=by
 induction L with
 |nil=>simp[Adr.glue]
 | cons a r ih=>
   have ha:=h a (by simp)
   have hr:=ih fun p hp=>h p (by simp[hp])
   rw[Ybd,Nat.add_mul];cases r with
   |nil=>simp[Adr.glue];omega
   |cons b r=>rw[Adr.glue_more];simp only[Yae,Ybd]at hr⊢;omega
theorem Zahg (A:Option Addr) (cap:Nat) (L:List (List UInt8)) (c:UInt8) (w:World) (hcap:L.length≤cap) (h:Rd w 1 A L.length (strs L)) (hz: ∀ ad,A=some ad→ad.spot=none)
 (hlen:(Adr.glue c L).length≤140737488355328) (hN:L.length≤1000000000):
 Calls prog 139 #[.slice A L.length cap, .string ⟨#[c]⟩] w fun e w'=>e= .returned (.string ⟨(Adr.glue c L).toArray⟩)∧Below w.heap.size w w':=by
 rcases Ybj L.length with h0|h0
 · have hL:L= []:=Yde.1 h0;subst hL;exact(Tryz.strings_Join_none A cap ⟨#[c]⟩ w).mono fun e w' ⟨he,hw⟩=>⟨he,by rw[hw];exact Yag _ _⟩
 · obtain⟨⟨b,o,sp⟩,rfl,hb,hx⟩:=h.2 h0;obtain rfl:sp=none:=hz _ rfl;have e1:(L.map fun l=>(⟨l.toArray⟩:ByteArray)).map (·.data.toList)=L:=by rw[Yes];simp[Function.comp_def]
   have hj:Lib.join ((L.map fun l=>(⟨l.toArray⟩:ByteArray)).map (·.data.toList)) (⟨#[c]⟩:ByteArray).data.toList=Adr.glue c L:=by rw[e1];exact Adr.join_glue c L
   have hl:(L.map fun l=>(⟨l.toArray⟩:ByteArray)).length=L.length:=by simp
   have hcalls:=Tryz.strings_Join b o cap (L.map fun l=>(⟨l.toArray⟩:ByteArray)) ⟨#[c]⟩ w (fun j x hx'=>by
    have hj':j<L.length:=by rw[←hl];exact(Ybb.1 hx').1
    rw[←Zag];refine hx j _ ?_;rw[Zaim hj'];rw[Ydb,Yaj hj']at hx';simp only[Option.map_some,Option.some.injEq]at hx';rw[hx']) hb (by omega) (by omega) (by rw[hj];exact hlen)
   rw[hj,hl]at hcalls;exact hcalls
theorem Zafc {w:World} {base k n:Nat} {e:TypeId} {A:Option Addr} {c:Nat} {xs:List Value} (h:w.ownsRow base e k (.slice A n c) n xs): ∀ ad,A=some ad→ad.spot=none:=by
 rintro ad rfl;rcases h.2 with⟨hv,_⟩|⟨g,cap,cur,hv,_⟩
 · cases hv
 · injection hv with hA;injection hA with hA;rw[hA]
theorem Zbch (s:ByteArray) (w:World) (hE:Env w) (hs:s.size≤100000000):
 Calls prog 229 #[.string s, .int .i64 16, .int .i64 48] w fun e w'=>Zamj 291 (Adr.parseMac s.data.toList) e∧Below w.heap.size w w':=by
 obtain⟨t1,p1,h1⟩:=hE.es;obtain⟨t2,p2,h2⟩:=hE.er;exact Zaex Tryz.laysPu14 s (by omega) t1 t2 p1 p2 w h1 h2
end Go.Proofs.Zq
namespace Adr
open Go
def ipTo (L:List (List UInt8)) (k:Nat):Int:=(L.take k).foldl step 0
theorem ipTo_zero (L:List (List UInt8)):ipTo L 0=0:=by unfold ipTo;rw[List.take_zero];rfl
theorem ipTo_succ (L:List (List UInt8)) (k:Nat) (h:k<L.length):ipTo L (k+1)=step (ipTo L k) L[k]:=by
 unfold ipTo;rw[Yax h,List.foldl_append];rfl
theorem Zazk (n:Int) (w:List UInt8) (h:n<0):step n w= -1:=by unfold step;rw[Yam (.inl h)]
theorem Zawr (L:List (List UInt8)) (n:Int) (h:n<0):L.foldl step n<0:=by
 induction L generalizing n with
 |nil=>exact h
 |cons a r ih=>rw[List.foldl_cons];exact ih _ (by rw[Zazk n a h];decide)
theorem ipTo_stop (L:List (List UInt8)) (k:Nat) (h:ipTo L k<0):ipTo L L.length<0:=by
 unfold ipTo at h⊢;rw[Ybw];have e:=Ybk k L;rw[←e,List.foldl_append];exact Zawr _ _ h
theorem ip_not (l:List UInt8) (h:(parts 46 l).length≠4):ip l= -1:=by
 unfold ip;split
 · rename_i e;rw[e]at h;simp at h
 · rfl
theorem ip_to (l:List UInt8) (h:(parts 46 l).length=4):ip l=ipTo (parts 46 l) 4:=by
 unfold ip ipTo;generalize parts 46 l=L at h
 match L,h with
 | [a,b,c,d],_=>rfl
theorem ipTo_bd (L:List (List UInt8)) (k:Nat) (hk:k≤L.length) (h4:k≤3) (h0:0≤ipTo L k):ipTo L k<16777216:=by
 have s: ∀ j,j<L.length→0≤ipTo L (j+1)→0≤ipTo L j∧ipTo L (j+1)≤256*ipTo L j+255:=by
  intro j hj h1;rw[ipTo_succ L j hj]at h1⊢;have:=Zbds h1;omega
 have h00:=ipTo_zero L;rcases Ybp 2 k with h|h
 · obtain rfl:k=3:=by omega
   have a:=s 2 (by omega) h0;have b:=s 1 (by omega) a.1;have c:=s 0 (by omega) b.1
   simp only[Ybi,Nat.reduceAdd]at a b c;omega
 · rcases Ybp 1 k with h'|h'
   · obtain rfl:k=2:=by omega
     have b:=s 1 (by omega) h0;have c:=s 0 (by omega) b.1
     simp only[Ybi,Nat.reduceAdd]at b c;omega
   · rcases Ybp 0 k with h2|h2
     · obtain rfl:k=1:=by omega
       have c:=s 0 (by omega) h0
       simp only[Ybi]at c;omega
     · obtain rfl:k=0:=by omega
       omega
theorem step_yes {n:Int} {w:List UInt8} (h0:0≤n) (h:numIn w 0 255=true):step n w=256*n+num w:=by
 have:=(numIn_iff _ _ _).1 h;unfold step;rw[Yab (by omega)]
theorem step_no {n:Int} {w:List UInt8} (h:numIn w 0 255=false):step n w= -1:=by
 unfold step;rw[Yam];rw[Yda]at h;have h2: ¬ (0≤num w∧0≤num w∧num w≤255):=fun a=>h ((numIn_iff w 0 255).2 a)
 omega
theorem or_add (a b:Int) (ha:0≤a) (ha2:a<16777216) (hb:0≤b) (hb2:b≤255):bits .or .i64 (a*256) b=256*a+b:=by
 obtain⟨x,rfl⟩:=Yci ha;obtain⟨y,rfl⟩:=Yci hb;have e:((x:Int)*256)=((256*x:Nat):Int):=by omega
 have hle:256*x|||y=256*x+y:=by
  have:=Nat.two_pow_add_eq_or_of_lt (i:=8) (b:=y) (by omega) x
  rw[show(2:Nat)^8=256 by decide]at this
  exact this.symm
 rw[e];show IntKind.i64.wrap ((BitVec.ofInt 64 ((256*x:Nat):Int)|||BitVec.ofInt 64 (y:Int)).toNat:Int)=_
 rw[BitVec.toNat_or,Zjb _ (by omega),Zjb _ (by omega),hle,Zzr _ (by omega)];omega
end Adr
namespace Go.Proofs.Zq
open Tryz
open Go.RowKit
def Znc (n:Int):Value:= .tuple #[.int .i64 (max n 0), .bool (decide (0≤n))]
theorem Ztv {n:Int} (h:0≤n):Znc n= .tuple #[.int .i64 n, .bool true]:=by
 unfold Znc;rw[show max n 0=n by omega];simp[h]
theorem Zmr {n:Int} (h:n<0):Znc n= .tuple #[.int .i64 0, .bool false]:=by
 unfold Znc;rw[show max n 0=0 by omega];simp;omega
theorem Zahe (s:ByteArray) (w:World) (hE:Env w) (hs:s.size≤100000000):
 Calls prog 178 #[.string s] w fun e w'=>e= .returned (Znc (Adr.ip s.data.toList))∧Below w.heap.size w w':=by
 go_enter func178,ntmps178;go_wp2_with fail;refine(Zaco s 46 _ hE hs).mono ?_;rintro e w1 ⟨A,cap,rfl,hc1,hc2,hR,hb1⟩;have hpl:=Adr.parts_len 46 s.data.toList;have hps:=Adr.parts_short 46 s.data.toList;rw[Zak]at hpl hps;by_cases h4:(Adr.parts 46 s.data.toList).length=4
 · have HI:=Zhd (Adr.ip_to _ h4);generalize Adr.parts 46 s.data.toList=L at *;have hE1:=hE.below hb1;have H4:=Zhd h4;rw[h4]at hR hc1⊢;clear h4 hpl;go_wp2_with fail;go_loopw [5,17] (fun o i wr=> ∃ k:Nat,k≤4∧i= .int .i64 k∧o= .int .i64 (Adr.ipTo L k)∧0≤Adr.ipTo L k∧Below w1.heap.size w1 wr) (fun _ i _=>4-(intOf i).toNat)
   case atStart=>exact⟨0,by omega,rfl,by rw[Adr.ipTo_zero],by rw[Adr.ipTo_zero];decide,Yag _ _⟩
   case round=>
    obtain⟨k,hk,rfl,rfl,hn,hbr⟩:=hrel;by_cases hk4:k<4
    · have hkL:k<L.length:=by rw[H4.out];exact hk4
      have hsuc:=Adr.ipTo_succ L k hkL;have hstop:=Adr.ipTo_stop L (k+1);have hbd:=Adr.ipTo_bd L k (by omega) (by omega) hn
      have hget:=Zaim hkL;have hshort:=hps L[k] (Yaw hkL);generalize L[k]=p at *;generalize Adr.ipTo L k=n at *;obtain⟨ad,rfl,had,hcell⟩:=(hR.below hbr).cell hget;clear hget;cases hin:Adr.numIn p 0 255 with
      | true=>
        have hr:=(Adr.numIn_iff _ _ _).1 hin;have hst:=Adr.step_yes hn hin;have HR:=Zhd (Zqp (s:=⟨p.toArray⟩) (by rw[Zcw];exact hin))
        rw[hst]at hsuc;have Hsuc:=Zhd hsuc;have Hor:=Zhd (Adr.or_add n (Adr.num p) hn hbd hr.1 hr.2.2);clear hst hsuc hin hstop;go_wp2_with fail;refine(Zqq ⟨p.toArray⟩ 0 255 _ (hE1.below hbr) (by rw[Zfs];omega)).mono ?_
        rintro e w3 ⟨rfl,hb3⟩;rw[HR.out];go_wp2_with fail;go_roundw
        case rel=>exact⟨k+1,by omega,by go_num,by rw[Hor.out,Hsuc.out],by rw[Hsuc.out];omega,Zaa hbr hb3⟩
        case measure=>simp[intOf];omega
      | false=>
        have hst:=Adr.step_no (n:=n) hin;have HR:=Zhd (Zlr (s:=⟨p.toArray⟩) (by rw[Zcw];exact hin))
        rw[hst]at hsuc
        have HF:=Zhd (Zmr (n:=Adr.ip s.data.toList) (by
         have:=hstop (by rw[hsuc];decide)
         rw[HI.out,←H4.out];exact this))
        clear hst hsuc hin hstop;go_wp2_with fail;refine(Zqq ⟨p.toArray⟩ 0 255 _ (hE1.below hbr) (by rw[Zfs];omega)).mono ?_
        rintro e w3 ⟨rfl,hb3⟩;rw[HR.out];go_wp2_with fail;go_ret2;exact⟨by rw[HF.out];rfl,Zaa hb1 (Zaa hbr hb3)⟩
    · have hk4':4≤k:=by omega
      have HF:=Zhd (show Znc (Adr.ip s.data.toList)= .tuple #[.int .i64 (Adr.ipTo L k), .bool true] by
       obtain rfl:k=4:=by omega
       rw[HI.out];exact Ztv hn)
      clear hk4;go_wp2_with fail;go_ret2;exact⟨by rw[HF.out];rfl,Zaa hb1 hbr⟩
 · have HF:=Zhd (Zmr (n:=Adr.ip s.data.toList) (by rw[Adr.ip_not _ h4];decide))
   have hne:(((Adr.parts 46 s.data.toList).length:Int)==4)=false:=by rw[Yak];omega
   clear h4;go_wp2_with fail;go_ret2;exact⟨by rw[HF.out];rfl,hb1⟩
end Go.Proofs.Zq
namespace Adr
open Go
theorem pre_two (l a b:List UInt8) (h:parts 47 l= [a,b]):pre l=if good (ip a) (num b)then(ip a,num b)else(-1,0):=by
 unfold pre;rw[h]
theorem good_no {n k:Int} (h: ¬ (0≤n∧0≤k∧k≤32∧right n k=true)):good n k=false:=by
 rw[Yda];unfold good;simp only[ne_eq,Yaq,Yao];rintro⟨⟨⟨a,b⟩,c⟩,d⟩;exact h ⟨a,b,c,d⟩
theorem first_slash (l:List UInt8) (h:(47:UInt8)∈l): ∃ a r,l=a++47::r∧(47:UInt8)∉a:=first_at 47 l h
theorem numIn_32 {b:List UInt8} (h:numIn b 0 32=true):0≤num b∧num b≤32:=by
 have:=(numIn_iff _ _ _).1 h;omega
theorem not_numIn_32 {b:List UInt8} (h:numIn b 0 32=false): ¬ (0≤num b∧num b≤32):=by
 intro a;have:=(numIn_iff b 0 32).2 ⟨a.1,a.1,a.2⟩;rw[h]at this;cases this
end Adr
namespace Go.Proofs.Zq
open Tryz
open Go.RowKit
def Zkr (p:Int×Int):Value:= .tuple #[.int .i64 (max p.1 0), .int .i64 p.2, .bool (decide (0≤p.1))]
theorem Zalg {p:Int×Int} (h:0≤p.1):Zkr p= .tuple #[.int .i64 p.1, .int .i64 p.2, .bool true]:=by
 unfold Zkr;rw[show max p.1 0=p.1 by omega];simp[h]
theorem Zph:Zkr (-1,0)= .tuple #[.int .i64 0, .int .i64 0, .bool false]:=by
 unfold Zkr;simp;decide
theorem Zara (s:ByteArray) (w:World) (hE:Env w) (hs:s.size≤100000000):
 Calls prog 177 #[.string s] w fun e w'=>e= .returned (Zkr (Adr.pre s.data.toList))∧Below w.heap.size w w':=by
 by_cases hc:(47:UInt8)∈s.data.toList
 · obtain⟨a,r,hl,ha⟩:=Adr.first_slash _ hc
   have hp:Adr.pre s.data.toList=if Adr.good (Adr.ip a) (Adr.num r)then(Adr.ip a,Adr.num r)else(-1,0):=by
    rw[hl,Adr.pre_hit a r ha];unfold Adr.preCut;simp
   have hsz:=Zak s;have hln:a.length+(r.length+1)=s.size:=by rw[←hsz,hl];simp
   have hla:a.length≤100000000:=by omega
   have hlr:r.length≤100000000:=by omega
   have HL:=Zhd hl;clear hl hsz hln hc
   have HN:=Zhd (show ∀ W,Env W→Calls prog 208 #[.string ⟨r.toArray⟩, .int .i64 0, .int .i64 32] W fun e w'=>e= .returned (Zni ⟨r.toArray⟩ 0 32)∧Below W.heap.size W w' from
    fun W hW=>Zqq ⟨r.toArray⟩ 0 32 W hW (by rw[Zfs];omega))
   have HI:=Zhd (show ∀ W,Env W→Calls prog 178 #[.string ⟨a.toArray⟩] W fun e w'=>e= .returned (Znc (Adr.ip a))∧Below W.heap.size W w' from
    fun W hW=>by
     have:=Zahe ⟨a.toArray⟩ W hW (by rw[Zfs];omega)
     rw[Zcw]at this;exact this)
   by_cases hip:0≤Adr.ip a
   · have HIR:=Zhd (Ztv hip);cases hin:Adr.numIn r 0 32 with
     | true=>
       have hb:=Adr.numIn_32 hin;have HNR:=Zhd (Zqp (s:=⟨r.toArray⟩) (by rw[Zcw];exact hin))
       cases hr:Adr.right (Adr.ip a) (Adr.num r)with
       | true=>
         rw[Adr.good_right hr,Yam rfl]at hp;have HF:=Zhd (show Zkr (Adr.pre s.data.toList)= .tuple #[.int .i64 (Adr.ip a), .int .i64 (Adr.num r), .bool true] by rw[hp];exact Zalg hip)
         have HR:=Zhd hr;clear hp hr hin;go_enter func177,ntmps177;go_wp2_with fail;refine(Zsy s 47 a r _ hE hs HL.out ha).mono ?_;rintro e w1 ⟨rfl,hb1⟩;go_wp2_with fail;refine(HI.out _ (hE.below hb1)).mono ?_;rintro e w2 ⟨rfl,hb2⟩;rw[HIR.out];go_wp2_with fail;refine(HN.out _ ((hE.below hb1).below hb2)).mono ?_;rintro e w3 ⟨rfl,hb3⟩;rw[HNR.out];go_wp2_with fail;refine(Zjj _ _ _).mono ?_;rintro e w4 ⟨rfl,rfl⟩;rw[HR.out];go_wp2_with fail;go_ret3;exact⟨by rw[HF.out];simp,Zaa (Zaa hb1 hb2) hb3⟩
       | false=>
         rw[Adr.good_no (by rw[hr];simp),Yab (by simp)]at hp
         have HF:=Zhd (show Zkr (Adr.pre s.data.toList)= .tuple #[.int .i64 0, .int .i64 0, .bool false] by rw[hp];exact Zph)
         have HR:=Zhd hr;clear hp hr hin;go_enter func177,ntmps177;go_wp2_with fail;refine(Zsy s 47 a r _ hE hs HL.out ha).mono ?_;rintro e w1 ⟨rfl,hb1⟩;go_wp2_with fail;refine(HI.out _ (hE.below hb1)).mono ?_;rintro e w2 ⟨rfl,hb2⟩;rw[HIR.out];go_wp2_with fail;refine(HN.out _ ((hE.below hb1).below hb2)).mono ?_;rintro e w3 ⟨rfl,hb3⟩;rw[HNR.out];go_wp2_with fail;refine(Zjj _ _ _).mono ?_;rintro e w4 ⟨rfl,rfl⟩;rw[HR.out];go_wp2_with fail;go_ret3;exact⟨by rw[HF.out];rfl,Zaa (Zaa hb1 hb2) hb3⟩
     | false=>
       have hnb:=Adr.not_numIn_32 hin;rw[Adr.good_no (fun h=>hnb ⟨h.2.1,h.2.2.1⟩),Yab (by simp)]at hp
       have HNR:=Zhd (Zlr (s:=⟨r.toArray⟩) (by rw[Zcw];exact hin))
       have HF:=Zhd (show Zkr (Adr.pre s.data.toList)= .tuple #[.int .i64 0, .int .i64 0, .bool false] by rw[hp];exact Zph)
       clear hp hin hnb;go_enter func177,ntmps177;go_wp2_with fail;refine(Zsy s 47 a r _ hE hs HL.out ha).mono ?_;rintro e w1 ⟨rfl,hb1⟩;go_wp2_with fail;refine(HI.out _ (hE.below hb1)).mono ?_;rintro e w2 ⟨rfl,hb2⟩;rw[HIR.out];go_wp2_with fail;refine(HN.out _ ((hE.below hb1).below hb2)).mono ?_;rintro e w3 ⟨rfl,hb3⟩;rw[HNR.out];go_wp2_with fail;go_ret3;exact⟨by rw[HF.out];rfl,Zaa (Zaa hb1 hb2) hb3⟩
   · have HIR:=Zhd (Zmr (n:=Adr.ip a) (by omega))
     rw[Adr.good_no (fun h=>hip h.1),Yab (by simp)]at hp
     have HF:=Zhd (show Zkr (Adr.pre s.data.toList)= .tuple #[.int .i64 0, .int .i64 0, .bool false] by rw[hp];exact Zph)
     clear hp;have HNR:Hid (∃ x y,Zni ⟨r.toArray⟩ 0 32= .tuple #[.int .i64 x, .bool y]):=Zhd ⟨_,_,rfl⟩;obtain⟨x,y,hxy⟩:=HNR.out;have HNR':=Zhd hxy;clear hxy HNR hip;go_enter func177,ntmps177;go_wp2_with fail;refine(Zsy s 47 a r _ hE hs HL.out ha).mono ?_;rintro e w1 ⟨rfl,hb1⟩;go_wp2_with fail;refine(HI.out _ (hE.below hb1)).mono ?_;rintro e w2 ⟨rfl,hb2⟩;rw[HIR.out];go_wp2_with fail;refine(HN.out _ ((hE.below hb1).below hb2)).mono ?_;rintro e w3 ⟨rfl,hb3⟩;rw[HNR'.out];go_wp2_with fail;go_ret3;exact⟨by rw[HF.out];rfl,Zaa (Zaa hb1 hb2) hb3⟩
 · have HF:=Zhd (show Zkr (Adr.pre s.data.toList)= .tuple #[.int .i64 0, .int .i64 0, .bool false] by rw[Adr.pre_miss _ hc];exact Zph)
   obtain⟨x,y,hxy⟩: ∃ x y,Znc (Adr.ip s.data.toList)= .tuple #[.int .i64 x, .bool y]:=⟨_,_,rfl⟩;have HIR:=Zhd hxy;obtain⟨x',y',hxy'⟩: ∃ x y,Zni ⟨#[]⟩ 0 32= .tuple #[.int .i64 x, .bool y]:=⟨_,_,rfl⟩;have HNR:=Zhd hxy';clear hxy hxy';have HC:=Zhd hc;clear hc;go_enter func177,ntmps177;go_wp2_with fail;refine(Zbag s 47 _ hE hs HC.out).mono ?_;rintro e w1 ⟨rfl,hb1⟩;go_wp2_with fail;refine(Zahe s _ (hE.below hb1) hs).mono ?_;rintro e w2 ⟨rfl,hb2⟩;rw[HIR.out];go_wp2_with fail;refine(Zqq ⟨#[]⟩ 0 32 _ ((hE.below hb1).below hb2) (by decide)).mono ?_
   rintro e w3 ⟨rfl,hb3⟩;rw[HNR.out];go_wp2_with fail;go_ret3;exact⟨by rw[HF.out];rfl,Zaa (Zaa hb1 hb2) hb3⟩
end Go.Proofs.Zq
namespace Adr
open Go
end Adr
namespace Go.Proofs.Zq
open Tryz
open Go.RowKit
theorem Zavx (W:World) (l:List UInt8):(convert 65 9 (.slice (some ⟨W.heap.size,0,none⟩) l.length l.length)).run prog (W.alloc (.cells (l.map fun b=>Value.int .u8 (b.toNat:Int)).toArray 5))=
 .ok (.string ⟨l.toArray⟩) (W.alloc (.cells (l.map fun b=>Value.int .u8 (b.toNat:Int)).toArray 5)):=by
 refine run_convert_bytes_back _ 65 9 5 _ _ l underlying65 underlying5 underlying9 fun j hj=> ?_
 rw[Zag,Ybi,World.cell?_alloc_at _ _ _ _ rfl];simp[hj]
theorem Zajh (x:Int) (h0:0≤x) (h:x<256):((UInt8.ofNat x.toNat).toNat:Int)=x:=by
 simp;omega
theorem Zagh (W:World) (x:Int) (h0:0≤x) (h:x<256):(convert 65 9 (.slice (some ⟨W.heap.size,0,none⟩) 1 1)).run prog (W.alloc (.cells #[.int .u8 x] 5))=
 .ok (.string ⟨#[UInt8.ofNat x.toNat]⟩) (W.alloc (.cells #[.int .u8 x] 5)):=by
 have:=Zavx W [UInt8.ofNat x.toNat];simp only[Yej,List.map_nil,Zajh x h0 h]at this;exact this
theorem Zaan {n:Int} (h0:0≤n) (h:n<10):Lib.decDigits n.toNat= [UInt8.ofNat (48+n%10).toNat]:=by
 rw[Lib.decDigits,dif_pos (by omega)];congr 2;omega
theorem Zbbu (n:Nat):(Lib.decDigits n).length≤n+1:=by
 induction n using Nat.strongRecOn with
 | _ n ih=>
   rw[Lib.decDigits];split
   · simp
   · have:=ih (n/10) (by omega)
     simp;omega
theorem Zww (l m:List UInt8):((⟨l.toArray⟩:ByteArray)++(⟨m.toArray⟩:ByteArray))=⟨(l++m).toArray⟩:=by
 apply ByteArray.ext;simp
theorem Zbca {n:Int} (h:10≤n):Lib.decDigits n.toNat=Lib.decDigits (n/10).toNat++ [UInt8.ofNat (48+n%10).toNat]:=by
 rw[Lib.decDigits,dif_neg (by omega)]
 congr 2
 · congr 1;omega
 · congr 1;omega
theorem Zajv (k:Nat): ∀ (n:Int) (w:World),0≤n→n<10^(k+1)→n≤9223372036854775807→
 Calls prog 15 #[.int .i64 n] w fun e w'=>e= .returned (.string ⟨(Lib.decDigits n.toNat).toArray⟩)∧Below w.heap.size w w':=by
 induction k with
 | zero=>
   intro n w h0 h h63;have hlt:n≤9:=by simpa using Int.le_sub_one_of_lt h
   have hcv:=Zagh w (48+n%10) (by omega) (by omega)
   have HD:=Zhd (Zaan (n:=n) h0 (by omega))
   clear h h63;go_enter func15,ntmps15;go_wp2_with fail;go_ret;exact⟨by rw[HD.out];rfl,(Yag _ _).alloc (Yaf _) _⟩
 | succ k ih=>
   intro n w h0 h h63;have hcv:=Zagh w (48+n%10) (by omega) (by omega)
   by_cases hlt:n≤9
   · have HD:=Zhd (Zaan (n:=n) h0 (by omega))
     clear h h63;go_enter func15,ntmps15;go_wp2_with fail;go_ret;exact⟨by rw[HD.out];rfl,(Yag _ _).alloc (Yaf _) _⟩
   · have hge:9<n:=by omega
     have HD:=Zhd (Zbca (n:=n) (by omega))
     have hq:n/10<10^(k+1):=by
      rw[Int.pow_succ]at h;exact Int.ediv_lt_of_lt_mul (by decide) h
     have IH:=Zhd (show ∀ W:World,_ from fun W=>ih (n/10) W (by omega) hq (by omega))
     have hlen:(Lib.decDigits (n/10).toNat).length≤1000000000000000000:=by have:=Zbbu (n/10).toNat;omega
     clear h hq hlt ih;go_enter func15,ntmps15;go_wp2_with fail;refine(IH.out _).mono ?_;rintro e w1 ⟨rfl,hb1⟩;go_wp2_with fail;go_ret;exact⟨by rw[HD.out,←Zww];rfl,Zaa ((Yag _ _).alloc (Yaf _) _) hb1⟩
theorem Zvv (n:Int) (w:World) (h0:0≤n) (h:n<10000000000000000000) (h63:n≤9223372036854775807):
 Calls prog 15 #[.int .i64 n] w fun e w'=>e= .returned (.string ⟨(Lib.decDigits n.toNat).toArray⟩)∧Below w.heap.size w w':=
 Zajv 18 n w h0 h h63
end Go.Proofs.Zq
namespace Adr
open Go Go.Lib
end Adr
namespace Go.Proofs.Zq
open Tryz
open Go.RowKit
theorem Zqa (x:Int) (h0:0≤x) (h:x<9223372036854775808):bits .and .i64 x 255=x%256:=by
 obtain⟨a,rfl⟩:=Yci h0;have e:(255:Int)=((255:Nat):Int):=rfl;rw[e,Adr.and_nat a 255 (by omega) (by decide)]
 have:=Yet a 8;simp only[Nat.reducePow,Nat.add_one_sub_one]at this;rw[show(255:Nat)=256-1 by decide,this];omega
theorem Zabg (i:Int) (h0:0≤i) (h:i<16) (W:World):(Instr.index 9 (.string ⟨#[48,49,50,51,52,53,54,55,56,57,97,98,99,100,101,102]⟩) (.int .i64 i)).run prog W= .ok (.int .u8 ((Adr.hexd i.toNat).toNat:Int)) W:=by
 have hc:i=0∨i=1∨i=2∨i=3∨i=4∨i=5∨i=6∨i=7∨i=8∨i=9∨i=10∨i=11∨i=12∨i=13∨i=14∨i=15:=by omega
 rcases hc with rfl|rfl|rfl|rfl|rfl|rfl|rfl|rfl|rfl|rfl|rfl|rfl|rfl|rfl|rfl|rfl<;>rfl
theorem Zxr (W:World) (a b:UInt8):(convert 65 9 (.slice (some ⟨W.heap.size,0,none⟩) 2 2)).run prog (W.alloc (.cells #[.int .u8 (a.toNat:Int), .int .u8 (b.toNat:Int)] 5)).drew=
 .ok (.string ⟨#[a,b]⟩) (W.alloc (.cells #[.int .u8 (a.toNat:Int), .int .u8 (b.toNat:Int)] 5)).drew:=by
 refine run_convert_bytes_back _ 65 9 5 _ _ [a,b] underlying65 underlying5 underlying9 fun j hj=> ?_
 show(W.alloc _).cell? _=_;rw[Zag,Ybi,World.cell?_alloc_at _ _ _ _ rfl]
 match j,hj with
 |0,_=>rfl
 |1,_=>rfl
theorem Zbfv (x:Int) (h0:0≤x) (h:x<9223372036854775808):bits .and .i64 x 15=x%16:=by
 obtain⟨a,rfl⟩:=Yci h0;have e:(15:Int)=((15:Nat):Int):=rfl;rw[e,Adr.and_nat a 15 (by omega) (by decide)]
 have:=Yet a 4;rw[show(2:Nat)^4-1=15 by decide,show(2:Nat)^4=16 by decide]at this
 rw[this];omega
def Zgd (n:Nat):List (List UInt8):= [Adr.mac2 (n/1099511627776%256),Adr.mac2 (n/4294967296%256),Adr.mac2 (n/16777216%256),Adr.mac2 (n/65536%256),Adr.mac2 (n/256%256),Adr.mac2 (n%256)]
theorem Zaxz (W:World) (x:Value) (T H:Nat) (hH:W.heap.size=H): ∀ j u,[x][j]?=some u→(W.alloc (.cells #[x] T)).drew.cell? ((⟨H,0,none⟩:Addr).add j)=some u:=by
 intro j u hu;subst hH;show(W.alloc _).cell? _=_;rw[Zag,Ybi,World.cell?_alloc_at _ _ _ _ rfl];simpa using hu
theorem Zaks (n:Int) (k:Nat) (sh:Int) (hsh:sh=40-8*(k:Int)) (hk:k<6) (h0:0≤n) (h:n<281474976710656):
 bits .and .i64 (n/2^sh.toNat) 255=n/2^sh.toNat%256∧(Zgd n.toNat)[k]?=some (Adr.mac2 (n/2^sh.toNat%256).toNat):=by
 have hc:k=0∨k=1∨k=2∨k=3∨k=4∨k=5:=by omega
 have e:sh.toNat=40-8*k:=by omega
 rw[e];rcases hc with rfl|rfl|rfl|rfl|rfl|rfl
 · rw[show(2:Int)^(40-8*0)=1099511627776 by decide]
   exact⟨Zqa _ (by omega) (by omega),by rw[show(n/1099511627776%256).toNat=n.toNat/1099511627776%256 by omega];rfl⟩
 · rw[show(2:Int)^(40-8*1)=4294967296 by decide]
   exact⟨Zqa _ (by omega) (by omega),by rw[show(n/4294967296%256).toNat=n.toNat/4294967296%256 by omega];rfl⟩
 · rw[show(2:Int)^(40-8*2)=16777216 by decide]
   exact⟨Zqa _ (by omega) (by omega),by rw[show(n/16777216%256).toNat=n.toNat/16777216%256 by omega];rfl⟩
 · rw[show(2:Int)^(40-8*3)=65536 by decide]
   exact⟨Zqa _ (by omega) (by omega),by rw[show(n/65536%256).toNat=n.toNat/65536%256 by omega];rfl⟩
 · rw[show(2:Int)^(40-8*4)=256 by decide]
   exact⟨Zqa _ (by omega) (by omega),by rw[show(n/256%256).toNat=n.toNat/256%256 by omega];rfl⟩
 · rw[show(2:Int)^(40-8*5)=1 by decide]
   exact⟨Zqa _ (by omega) (by omega),by rw[show(n/1%256).toNat=n.toNat%256 by omega];rfl⟩
theorem Zare {L:List (List UInt8)} {k:Nat} {p:List UInt8} (h:L[k]?=some p):strs (L.take (k+1))=strs (L.take k)++ [.string ⟨p.toArray⟩]:=by
 obtain⟨hk,e⟩:=Ybb.1 h;rw[Yax hk,Zafm,e];rfl
theorem Zaxn (k:Int) (h0:0≤k):Adr.mac2 k.toNat= [Adr.hexd (k/16).toNat,Adr.hexd (k%16).toNat]:=by
 unfold Adr.mac2;rw[show(k/16).toNat=k.toNat/16 by omega,show(k%16).toNat=k.toNat%16 by omega]
theorem Zkb (n:Int) (w:World) (h0:0≤n) (h:n<281474976710656):
 Calls prog 231 #[.int .i64 n] w fun e w'=>e= .returned (.tuple #[.string ⟨(Adr.macText n.toNat).toArray⟩, .bool true])∧Below w.heap.size w w':=by
 obtain⟨i0,hi,hz0,hz1,hz2⟩:=info_parts Zei;go_enter func231,ntmps231;go_wp2_with fail;go_loopw [4,5,6] (fun v i _ wr=> ∃ k:Nat,k≤6∧i= .int .i64 (40-8*k)∧wr.ownsRow w.heap.size 9 1 v k (strs ((Zgd n.toNat).take k))∧Below w.heap.size w wr) (fun _ i _ _=>(intOf i+8).toNat)
 case atStart=>exact⟨0,by omega,rfl,World.ownsRow_nil _ _ _ _,Yag _ _⟩
 case round=>
  obtain⟨k,hk,rfl,hown,hb⟩:=hrel;by_cases h6:k<6
  · obtain⟨sh,hsh⟩: ∃ sh,sh=40-8*(k:Int):=⟨_,rfl⟩;rw[←hsh];have hs1:0≤sh:=by omega
    have hs2:sh≤40:=by omega
    have Hsh:=Zhd hsh;obtain⟨ha,hp⟩:=Zaks n k sh hsh h6 h0 h;have hk1a:0≤n/2^sh.toNat%256:=by omega
    have hk1b:n/2^sh.toNat%256<256:=by omega
    generalize hk1:n/2^sh.toNat%256=k1 at *;have Hp:=Zhd hp;clear hsh hp hk1;have hi1:=Zabg (k1/16) (by omega) (by omega)
    have hj1:=Zabg (k1%16) (by omega) (by omega)
    have hf1:=Zbfv k1 (by omega) (by omega)
    have hcv:=Zxr wr (Adr.hexd (k1/16).toNat) (Adr.hexd (k1%16).toNat);go_wp2_with fail;go_region_law (refine Zazj (by rfl) _ _ 34 (by rfl) w 9 i0 _ 1 16 underlying34 hi hz0 hz1 hz2 rfl (by decide) (by decide) (((hown.alloc _).alloc _).drew) (((hb.alloc hb.size _).alloc (Yat hb.size (by simp)) _).drew) (by rfl) ⟨wr.heap.size+1,0,none⟩ 1 1 [.string ⟨#[Adr.hexd (k1/16).toNat,Adr.hexd (k1%16).toNat]⟩] (by rfl) (by rfl) (Zaxz _ _ _ _ (by simp)) (by simp;rfl) (by omega) ?_;intro v2 x2 hown2 hc2)
    all_goals
     go_wp2_with fail;go_roundw
     case rel=>
      refine⟨k+1,by omega, ?_, ?_,hc2⟩
      · rw[Hsh.out];go_num
      · have e:=Zare Hp.out;rw[Zaxn k1 hk1a]at e;rw[e];exact hown2
     case measure=>simp[intOf];omega
  · have hk6:6≤k:=by omega
    have e6:k=(Zgd n.toNat).length:=by show k=6;omega
    have hfree: ∀ p∈Zgd n.toNat,p.length≤2:=by
     intro p hp;unfold Zgd at hp;simp only[Yav,Ybq,or_false]at hp;rcases hp with rfl|rfl|rfl|rfl|rfl|rfl<;>exact Yaf 2
    have Hlen:=Zhd (Zawu 58 (Zgd n.toNat) 2 hfree);have E6:=Zhd e6;clear h6 e6 hfree;obtain⟨A,cap,rfl,hcap,_,hrd⟩:=Zbj hown;have hsp:=Zhd (Zafc hown)
    have Hrd:=Zhd (show Rd wr 1 A (Zgd n.toNat).length (strs (Zgd n.toNat)) by
     rw[E6.out,Ybw]at hrd;exact hrd)
    have HJ:=Zhd (show Calls prog 139 #[.slice A k cap, .string ⟨#[58]⟩] wr fun e w'=>e= .returned (.string ⟨(Adr.glue 58 (Zgd n.toNat)).toArray⟩)∧Below wr.heap.size wr w' by
     have:=Zahg A cap (Zgd n.toNat) 58 wr (by rw[←E6.out];exact hcap) Hrd.out hsp.out (Yat Hlen.out (by show 6*3≤_;decide)) (by show 6≤_;decide)
     rw[←E6.out]at this;exact this)
    clear hown hrd;go_wp2_with fail;refine HJ.out.mono ?_;rintro e w5 ⟨rfl,hb5⟩;go_wp2_with fail;go_ret2;exact⟨rfl,Zaa hb hb5⟩
end Go.Proofs.Zq
namespace Adr
open Go
end Adr
namespace Go.Proofs.Zq
open Tryz
open Go.RowKit
end Go.Proofs.Zq
namespace Adr
open Go
end Adr
namespace Go.Proofs.Zq
open Tryz
open Go.RowKit
theorem Zbcq (s:ByteArray) (w:World) (hE:Env w) (hs:s.size≤100000000):
 Calls prog 207 #[.string s] w fun e w'=>e= .returned (Znc (Adr.mac s.data.toList))∧Below w.heap.size w w':=by
 have hm:=Adr.macP_eq s.data.toList;have hlen:=Zasp s.data.toList 58;rw[Zak]at hlen;unfold Adr.macP at hm
 have HH:=Zhd (show ∀ W,Env W→Calls prog 229 #[.string ⟨(Lib.replaceAll s.data.toList [58] []).toArray⟩, .int .i64 16, .int .i64 48] W fun e w'=>Zamj 291 (Adr.parseMac (Lib.replaceAll s.data.toList [58] [])) e∧Below W.heap.size W w' from
  fun W hW=>by
   have:=Zbch ⟨(Lib.replaceAll s.data.toList [58] []).toArray⟩ W hW (by rw[Zfs];omega)
   rw[Zcw]at this;exact this)
 clear hlen;rcases hp:Adr.parseMac (Lib.replaceAll s.data.toList [58] [])with _|(_|u)
 rotate_left 2
 ·
  have hu:=Adr.parseMac_lt hp;rw[hp]at hm;simp only at hm;have HP:=Zhd hp;clear hp;by_cases he:Adr.macText u=s.data.toList
  · rw[Yam he]at hm;have HF:=Zhd (show Znc (Adr.mac s.data.toList)= .tuple #[.int .i64 u, .bool true] by rw[←hm];exact Ztv (by omega))
    have HE:=Zhd he;clear hm he;go_enter func207,ntmps207;go_wp2_with fail;refine(Zpr s 58 _ hE hs).mono ?_;rintro e w1 ⟨rfl,hb1⟩;go_wp2_with fail;refine(HH.out _ (hE.below hb1)).mono ?_;rintro e w2 ⟨hpe,hb2⟩;rw[HP.out]at hpe;subst hpe;go_wp2_with fail;refine(Zkb u _ (by omega) (by omega)).mono ?_
    rintro e w3 ⟨rfl,hb3⟩;rw[Ybr,HE.out,mk_data];go_wp2_with fail;go_ret2;exact⟨by rw[HF.out];rfl,Zaa (Zaa hb1 hb2) hb3⟩
  · rw[Yab he]at hm;have HF:=Zhd (show Znc (Adr.mac s.data.toList)= .tuple #[.int .i64 0, .bool false] by rw[←hm];exact Zmr (by decide))
    have hne:=Zbat he;have HN:=Zhd hne;clear hm he hne;go_enter func207,ntmps207;go_wp2_with fail;refine(Zpr s 58 _ hE hs).mono ?_;rintro e w1 ⟨rfl,hb1⟩;go_wp2_with fail;refine(HH.out _ (hE.below hb1)).mono ?_;rintro e w2 ⟨hpe,hb2⟩;rw[HP.out]at hpe;subst hpe;go_wp2_with fail;refine(Zkb u _ (by omega) (by omega)).mono ?_
    rintro e w3 ⟨rfl,hb3⟩;rw[Ybr];have hne:=HN.out;generalize Adr.macText u=T at *;go_wp2_with fail;go_ret2;exact⟨by rw[HF.out];rfl,Zaa (Zaa hb1 hb2) hb3⟩
 ·
  rw[hp]at hm;simp only at hm;have HF:=Zhd (show Znc (Adr.mac s.data.toList)= .tuple #[.int .i64 0, .bool false] by rw[←hm];exact Zmr (by decide))
  have HP:=Zhd hp;clear hp hm;go_enter func207,ntmps207;go_wp2_with fail;refine(Zpr s 58 _ hE hs).mono ?_;rintro e w1 ⟨rfl,hb1⟩;go_wp2_with fail;refine(HH.out _ (hE.below hb1)).mono ?_;rintro e w2 ⟨hpe,hb2⟩;rw[HP.out]at hpe;obtain⟨p,rfl⟩:=hpe;go_wp2_with fail;refine(Zkb 0 _ (by decide) (by decide)).mono ?_
  rintro e w3 ⟨rfl,hb3⟩;generalize Adr.macText (Int.toNat 0)=T at *;go_wp2_with fail;go_ret2;exact⟨by rw[HF.out];rfl,Zaa (Zaa hb1 hb2) hb3⟩
 ·
  rw[hp]at hm;simp only at hm;have HF:=Zhd (show Znc (Adr.mac s.data.toList)= .tuple #[.int .i64 0, .bool false] by rw[←hm];exact Zmr (by decide))
  have HP:=Zhd hp;clear hp hm;go_enter func207,ntmps207;go_wp2_with fail;refine(Zpr s 58 _ hE hs).mono ?_;rintro e w1 ⟨rfl,hb1⟩;go_wp2_with fail;refine(HH.out _ (hE.below hb1)).mono ?_;rintro e w2 ⟨hpe,hb2⟩;rw[HP.out]at hpe;obtain⟨p,rfl⟩:=hpe;go_wp2_with fail;refine(Zkb 281474976710655 _ (by decide) (by decide)).mono ?_
  rintro e w3 ⟨rfl,hb3⟩;generalize Adr.macText (Int.toNat 281474976710655)=T at *;go_wp2_with fail;go_ret2;exact⟨by rw[HF.out];rfl,Zaa (Zaa hb1 hb2) hb3⟩
open Go
theorem Zaaj {a b:ByteArray}:(a.toList==b.toList)=decide (a=b):=by
 rw[Yby,beq_iff_eq,Yao];exact⟨fun h=>ByteArray.ext (Yec.1 (by rwa [Lib.toList_data,Lib.toList_data]at h)),fun h=>by rw[h]⟩
theorem Zgu {s:ByteArray} (h:0<s.size):s.toList.isEmpty=false:=by
 rw[Lib.toList_data,List.isEmpty_eq_false_iff];intro e;have:s.data.toList.length=0:=by rw[e];rfl
 rw[Zak]at this;omega
theorem Zahb:(prog.info? 183).map (fun i=>(i.zero,i.size))=some (some (.agg (Array.replicate 256 (.bool false))),256):=by kernel_rfl
theorem Zzo (s chars:ByteArray) (w:World) (hs:s.size≤100000000) (hc2:chars.size≤100000000) (hascii:chars.data.toList.all (fun b=>decide (b.toNat<128))=true):
 Calls prog 97 #[.string s, .string chars] w fun e w'=>e= .returned (.string ⟨(Lib.trimRightS s.data.toList chars.data.toList).toArray⟩)∧Below w.heap.size w w':=
 Any.strings_TrimRight_laid Tryz.lays162 Zahb s chars w (by omega) (by omega) (ascii_of_all hascii)
theorem Zaip (s chars:ByteArray) (w:World) (hs:s.size≤100000000) (hc2:chars.size≤100000000) (hascii:chars.data.toList.all (fun b=>decide (b.toNat<128))=true):
 Calls prog 228 #[.string s, .string chars] w fun e w'=>e= .returned (.string ⟨(Lib.trimS s.data.toList chars.data.toList).toArray⟩)∧Below w.heap.size w w':=
 Any.strings_Trim_laid Tryz.lays160 Zahb s chars w (by omega) (by omega) (ascii_of_all hascii)
end Go.Proofs.Zq
