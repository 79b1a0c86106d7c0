import Derived.WalkSpells
import Derived.WalkLawsBesides
import Derived.BigQuiet
import Derived.Deep.QuietTactic
import Derived.Lib.Builder
import Derived.Lib.Walk
import Derived.Laws.Externs
import Derived.Lib.SplitLaws
import Derived.Shelf.Pu.Lays
import Derived.Shelf.Pu.Lower
import Derived.Shelf.Pu.ParseUintEmpty
import Derived.Shelf.Pu.ToError
import Derived.Shelf.Pu.ToErrorRange
import Derived.Lib.ConvBytes
import Derived.Lib.AtoiAllMem
import Derived.Lib.ParseIntBMem
import Derived.Laws.Strings3
import Derived.Laws.Closers25
import Derived.Laws.Closers25b
import Derived.BigCall
import Derived.BigGuard
import Derived.Test.YtkbojechhmmkcaaGreatDoorK01
set_option linter.unusedVariables false
set_option linter.unusedSimpArgs false
set_option maxHeartbeats 32000000
set_option maxRecDepth 100000
namespace Adr
open Go.Lib
def hexd (k:Nat):UInt8:=UInt8.ofNat (if k<10 then 48+k else 87+k)
def hv (c:UInt8):Int:=if 48≤c.toNat∧c.toNat≤57 then(c.toNat:Int)-48 else if 97≤c.toNat∧c.toNat≤102 then(c.toNat:Int)-97+10 else -1
def mac2 (k:Nat):List UInt8:= [hexd (k/16),hexd (k%16)]
def macText (n:Nat):List UInt8:=glue 58 [mac2 (n/1099511627776%256),mac2 (n/4294967296%256),mac2 (n/16777216%256),mac2 (n/65536%256),mac2 (n/256%256),mac2 (n%256)]
def Zhl (n:Int) (w:List UInt8):Int:=match w with
 | [x,y]=>if n<0∨hv x<0∨hv y<0 then -1 else 256*n+16*hv x+hv y
 |_=> -1
def mac (l:List UInt8):Int:=match parts 58 l with
 | [a,b,c,d,e,f]=>Zhl (Zhl (Zhl (Zhl (Zhl (Zhl 0 a) b) c) d) e) f
 |_=> -1
theorem Zrr {k:Nat} (h:k<16):(hexd k).toNat=if k<10 then 48+k else 87+k:=by
 unfold hexd;split<;>simp<;>omega
theorem Zaox {k:Nat} (h:k<16):hv (hexd k)=k:=by
 unfold hv;rw[Zrr h];split
 · rw[Yam (by omega)];omega
 · rw[Yab (by omega),Yam (by omega)];omega
theorem Zaou {c:UInt8} (h:0≤hv c):hv c<16∧hexd (hv c).toNat=c:=by
 unfold hv at h⊢;split
 · rename_i h1;refine⟨by omega,Ybx.1 ?_⟩
   rw[Zrr (by omega),Yam (by omega)];omega
 · rename_i h1;rw[Yab h1]at h;split
   · rename_i h2;refine⟨by omega,Ybx.1 ?_⟩
     rw[Zrr (by omega),Yab (by omega)];omega
   · rename_i h2;rw[Yab h2]at h;omega
theorem Zabe {k:Nat} (h:k<16):(58:UInt8)≠hexd k:=by
 intro e;have:=congrArg UInt8.toNat e;rw[Zrr h]at this;simp at this;split at this<;>omega
theorem Zabr {k:Nat} (h:k<256):(58:UInt8)∉mac2 k:=by
 unfold mac2;simp only[Yav,Ybq,or_false,not_or];exact⟨Zabe (by omega),Zabe (by omega)⟩
theorem Zgz (n k:Nat) (h:k<256):Zhl n (mac2 k)=((256*n+k:Nat):Int):=by
 unfold mac2 Zhl;simp only;rw[Zaox (show k/16<16 by omega),Zaox (show k%16<16 by omega),Yab (by omega)]
 omega
theorem Zys (n:Nat):parts 58 (macText n)= [mac2 (n/1099511627776%256),mac2 (n/4294967296%256),mac2 (n/16777216%256),mac2 (n/65536%256),mac2 (n/256%256),mac2 (n%256)]:=by
 have f: ∀ k,(58:UInt8)∉mac2 (k%256):=fun k=>Zabr (Nat.mod_lt _ (by decide))
 unfold macText;rw[glue_more,glue_more,glue_more,glue_more,glue_more,Zyd,Zem _ _ _ (f _),Zem _ _ _ (f _),Zem _ _ _ (f _),Zem _ _ _ (f _),Zem _ _ _ (f _),Zmu _ _ (f _)]
theorem Zaxp (n:Nat) (h:n<281474976710656):mac (macText n)=n:=by
 unfold mac;rw[Zys];simp only;rw[show(0:Int)=((0:Nat):Int)from rfl,Zgz _ _ (by omega),Zgz _ _ (by omega),Zgz _ _ (by omega),Zgz _ _ (by omega),Zgz _ _ (by omega),Zgz _ _ (by omega)]
 omega
theorem Zmo {n:Int} {w:List UInt8} (h:0≤Zhl n w):0≤n∧ ∃ k:Nat,k<256∧w=mac2 k∧Zhl n w=256*n+k:=by
 unfold Zhl at h⊢;split at h
 · rename_i x y;split at h
   · omega
   · rename_i hn;have hx:=Zaou (c:=x) (by omega)
     have hy:=Zaou (c:=y) (by omega)
     refine⟨by omega,(16*hv x+hv y).toNat,by omega, ?_, ?_⟩
     · unfold mac2;rw[show(16*hv x+hv y).toNat/16=(hv x).toNat by omega,show(16*hv x+hv y).toNat%16=(hv y).toNat by omega,hx.2,hy.2]
     · rw[Yab hn];omega
 · omega
theorem Zabs (l:List UInt8):mac l= -1∨ ∃ a b c d e f,parts 58 l= [a,b,c,d,e,f]∧mac l=Zhl (Zhl (Zhl (Zhl (Zhl (Zhl 0 a) b) c) d) e) f:=by
 unfold mac;split
 · rename_i a b c d e f h;right;exact⟨a,b,c,d,e,f,h,rfl⟩
 · left;rfl
theorem Zaxo (l:List UInt8) (h:0≤mac l):mac l<281474976710656∧macText (mac l).toNat=l:=by
 rcases Zabs l with e|⟨a,b,c,d,e',f,hp,e⟩
 · omega
 · rw[e]at h⊢;obtain⟨h5,kf,f1,ef,gf⟩:=Zmo h;obtain⟨h4,ke,e1,ee,ge⟩:=Zmo h5;obtain⟨h3,kd,d1,ed,gd⟩:=Zmo h4;obtain⟨h2,kc,c1,ec,gc⟩:=Zmo h3;obtain⟨h1,kb,b1,eb,gb⟩:=Zmo h2;obtain⟨_,ka,a1,ea,ga⟩:=Zmo h1;rw[gf,ge,gd,gc,gb,ga];refine⟨by omega, ?_⟩
   unfold macText;generalize hN:(256*(256*(256*(256*(256*(256*(0:Int)+ka)+kb)+kc)+kd)+ke)+kf).toNat=N;rw[show N/1099511627776%256=ka by omega,show N/4294967296%256=kb by omega,show N/16777216%256=kc by omega,show N/65536%256=kd by omega,show N/256%256=ke by omega,show N%256=kf by omega,←ea,←eb,←ec,←ed,←ee,←ef,←hp]
   exact Zwb 58 l
theorem Zbgr (l:List UInt8): -1≤mac l:=by
 rcases Zabs l with h|⟨a,b,c,d,e,f,_,h⟩
 · omega
 · rw[h];generalize Zhl (Zhl (Zhl (Zhl (Zhl 0 a) b) c) d) e=n;unfold Zhl;split
   · split<;>omega
   · omega
def dig36 (c:UInt8):Nat:=if 48≤c.toNat∧c.toNat≤57 then c.toNat-48 else if 97≤(c|||32).toNat∧(c|||32).toNat≤122 then(c|||32).toNat-97+10 else 255
def parse16 (acc:Nat):List UInt8→Option (Option Nat)
 | []=>some (some acc)
 |c::r=>if 16≤dig36 c then none else if 281474976710656≤acc*16+dig36 c then some none else parse16 (acc*16+dig36 c) r
def parseMac (l:List UInt8):Option (Option Nat):=if l= []then none else parse16 0 l
def macP (l:List UInt8):Int:=match parseMac (replaceAll l [58] [])with
 |some (some n)=>if macText n=l then(n:Int)else -1
 |_=> -1
theorem Zwk: ∀ (l:List UInt8) (acc u:Nat),acc<281474976710656→parse16 acc l=some (some u)→u<281474976710656
 | [],acc,u,ha,h=>by
   rw[parse16]at h;injection h with h
   injection h with h
   omega
 | c ::r,acc,u,ha,h=>by
   rw[parse16]at h;by_cases h1:16≤dig36 c
   · rw[Yam h1]at h;cases h
   · rw[Yab h1]at h;by_cases h2:281474976710656≤acc*16+dig36 c
     · rw[Yam h2]at h;cases h
     · rw[Yab h2]at h;exact Zwk r _ u (by omega) h
theorem parseMac_lt {l:List UInt8} {u:Nat} (h:parseMac l=some (some u)):u<281474976710656:=by
 unfold parseMac at h;split at h
 · cases h
 · exact Zwk l 0 u (by decide) h
theorem or32: ∀ k:Fin 16,dig36 (hexd k.val)=k.val:=by decide+kernel
theorem Zagl {k:Nat} (h:k<16):dig36 (hexd k)=k:=or32 ⟨k,h⟩
theorem Zje (acc k:Nat) (r:List UInt8) (hk:k<256) (ha:acc*256+k<281474976710656):parse16 acc (mac2 k++r)=parse16 (acc*256+k) r:=by
 unfold mac2;rw[Ycn,Ycn,List.nil_append,parse16,Zagl (show k/16<16 by omega),Yab (by omega),Yab (by omega),parse16,Zagl (show k%16<16 by omega),Yab (by omega),Yab (by omega)]
 congr 1;omega
theorem Zadw (L:List (List UInt8)) (h: ∀ p∈L,(58:UInt8)∉p):(glue 58 L).filter (· !=58)=L.flatten:=by
 induction L with
 |nil=>rfl
 | cons a r ih=>
   cases r with
   |nil=>rw[Zyd,Zjw 58 a (h a (by simp))];simp
   | cons b r=>
     rw[glue_more,Yco,Zjw 58 a (h a (by simp)),List.filter_cons_of_neg (by simp),ih (fun p hp=>h p (by simp only[Yav]at hp⊢;exact Or.inr hp))]
     simp
theorem Zyy (n:Nat) (h:n<281474976710656):parseMac (replaceAll (macText n) [58] [])=some (some n):=by
 have f: ∀ k,(58:UInt8)∉mac2 (k%256):=fun k=>Zabr (Nat.mod_lt _ (by decide))
 rw[replace_filter];unfold macText
 rw[Zadw _ (by
  intro p hp;simp only[Yav,Ybq,or_false]at hp;rcases hp with rfl|rfl|rfl|rfl|rfl|rfl<;>exact f _)]
 simp only[List.flatten_cons,List.flatten_nil];unfold parseMac;rw[Yab (by simp[mac2]),Zje _ _ _ (by omega) (by omega),Zje _ _ _ (by omega) (by omega),Zje _ _ _ (by omega) (by omega),Zje _ _ _ (by omega) (by omega),Zje _ _ _ (by omega) (by omega),Zje _ _ _ (by omega) (by omega),parse16]
 congr 2;omega
theorem macP_eq (l:List UInt8):macP l=mac l:=by
 unfold macP;by_cases h:0≤mac l
 · obtain⟨h1,h2⟩:=Zaxo l h;have:=Zyy (mac l).toNat (by omega)
   rw[h2]at this;rw[this];simp only;rw[Yam h2];omega
 · have hm:mac l= -1:=by have:=Zbgr l;omega
   rw[hm];split
   · rename_i n hn;by_cases e:macText n=l
     · exfalso;have:=Zaxp n (parseMac_lt hn);rw[e]at this;omega
     · rw[Yab e]
   · rfl
end Adr
namespace Go.Proofs.Zq
open Tryz
open Go.RowKit
theorem Zcb {k:IntKind} {a b:Int} (h:a=b):Ending.returned (.int k a)= .returned (.int k b):=by rw[h]
theorem Zah {a b:Bool} (h:a=b):Ending.returned (.bool a)= .returned (.bool b):=by rw[h]
theorem Zahy (n:Int) (w:World) (h0:0≤n) (h:n≤32):
 Calls prog 214 #[.int .i64 n] w fun e w'=>e= .returned (.int .i64 (Adr.restV n))∧w=w':=by
 go_enter func214,ntmps214;go_wp2;go_ret;exact⟨Zcb (Adr.rest_val n h0 h),rfl⟩
theorem Zjj (n b:Int) (w:World):
 Calls prog 213 #[.int .i64 n, .int .i64 b] w fun e w'=>e= .returned (.bool (Adr.right n b))∧w=w':=by
 by_cases h:0≤n∧n<4294967296∧0≤b∧b≤32
 · obtain⟨h0,h1,h2,h3⟩:=h;have he:=Adr.right_bits n b h0 h1 h2 h3;go_enter func213,ntmps213;go_wp2_with (go_at_call 214;refine(Zahy _ _ (by omega) (by omega)).mono ?_;rintro e w' ⟨rfl,rfl⟩)
   go_ret;exact⟨rfl,rfl⟩
 · have he:=Adr.right_not h;by_cases h0:0≤n
   · by_cases h1:n<4294967296
     · by_cases h2:0≤b
       · have h3:32<b:=by omega
         clear h;go_enter func213,ntmps213;go_wp2;go_ret;exact⟨rfl,rfl⟩
       · have h2:b<0:=by omega
         clear h;go_enter func213,ntmps213;go_wp2;go_ret;exact⟨rfl,rfl⟩
     · have h1:4294967296≤n:=by omega
       clear h;go_enter func213,ntmps213;go_wp2;go_ret;exact⟨rfl,rfl⟩
   · have h0:n<0:=by omega
     clear h;go_enter func213,ntmps213;go_wp2;go_ret;exact⟨rfl,rfl⟩
theorem Zbgn (n b ip:Int) (w:World):
 Calls prog 179 #[.int .i64 n, .int .i64 b, .int .i64 ip] w fun e w'=>e= .returned (.bool (Adr.isIn n b ip))∧w=w':=by
 cases hr:Adr.right n b with
 | false=>
   have He:=Zhd (Adr.isIn_not (n:=n) (b:=b) (ip:=ip) (by rw[hr];simp))
   have Hr:=Zhd hr;clear hr;go_enter func179,ntmps179;go_wp2_with (go_at_call 213;refine(Zjj _ _ _).mono ?_;rintro e w' ⟨rfl,rfl⟩;rw[Hr.out]);go_ret;exact⟨Zah He.out.symm,rfl⟩
 | true=>
   obtain⟨n0,n1,b0,b1,_⟩:=Adr.right_bd hr;by_cases h:0≤ip∧ip<4294967296
   · obtain⟨h0,h1⟩:=h;have He:=Zhd (Adr.in_bits n b ip hr h0 h1);have Hr:=Zhd hr;clear hr;go_enter func179,ntmps179;go_wp2_with (first|(go_at_call 213;refine(Zjj _ _ _).mono ?_;rintro e w' ⟨rfl,rfl⟩;rw[Hr.out])|(go_at_call 214;refine(Zahy _ _ (by omega) (by omega)).mono ?_;rintro e w' ⟨rfl,rfl⟩))
     go_ret;exact⟨Zah He.out,rfl⟩
   · have He:=Zhd (Adr.isIn_not (n:=n) (b:=b) (ip:=ip) (by rintro⟨_,x,y⟩;exact h ⟨x,y⟩))
     have Hr:=Zhd hr;clear hr;by_cases h0:0≤ip
     · have h1:4294967296≤ip:=by omega
       clear h;go_enter func179,ntmps179;go_wp2_with (go_at_call 213;refine(Zjj _ _ _).mono ?_;rintro e w' ⟨rfl,rfl⟩;rw[Hr.out]);go_ret;exact⟨Zah He.out.symm,rfl⟩
     · have h0:ip<0:=by omega
       clear h;go_enter func179,ntmps179;go_wp2_with (go_at_call 213;refine(Zjj _ _ _).mono ?_;rintro e w' ⟨rfl,rfl⟩;rw[Hr.out]);go_ret;exact⟨Zah He.out.symm,rfl⟩
open Go Go.Sort Lx
theorem Zabf (l:List UInt8) (c:UInt8):Lib.indexByte l (((c.toNat:Int)).toNat).toUInt8=Lib.indexByte l c:=by
 congr 1;simp
theorem Zavm (c:UInt8) (w:World):Calls prog 216 #[.int .u8 (c.toNat:Int)] w fun e w'=>e= .returned (.bool (Zna c))∧w'=w:=by
 have hc256:=c.toNat_lt;have HI:=Tryz.strings_IndexByte ⟨#[45,95,46,47,58,42]⟩ (c.toNat:Int) w;rw[Zabf]at HI;have HX:Hid (Zna c=((decide (97≤c.toNat)&&decide (c.toNat≤122))||(decide (65≤c.toNat)&&decide (c.toNat≤90))||(decide (48≤c.toNat)&&decide (c.toNat≤57))||decide (0≤Lib.indexByte [45,95,46,47,58,42] c))):=rfl
 have HI2:Hid (Calls prog 180 #[.string ⟨#[45,95,46,47,58,42]⟩, .int .u8 (c.toNat:Int)] w fun e w'=>e= .returned (.int .i64 (Lib.indexByte [45,95,46,47,58,42] c))∧w'=w):=HI
 clear HI;generalize Lib.indexByte [45,95,46,47,58,42] c=q at *;generalize c.toNat=n at *;go_enter func216,ntmps216;go_wp2_with (go_at_call 180;refine HI2.out.mono ?_;rintro e w' ⟨rfl,rfl⟩)
 all_goals
  go_ret;refine⟨Zah ?_,rfl⟩;rw[HX.out,Yby];simp only[Yef,Yaq,Yao]
  first|omega|(simp;omega)
theorem Zamz {s:ByteArray} {k:Nat} (h:k<s.size):s.data.toList[k]'(by rw[Zak];exact h)=s[k]:=rfl
theorem drop_at {s:ByteArray} {k:Nat} (h:k<s.size):s.data.toList.drop k=s[k]::s.data.toList.drop (k+1):=Yaz (by rw[Zak];exact h)
theorem Zafg (s:ByteArray) (w:World) (hs:s.size≤1000000000):Calls prog 181 #[.string s] w fun e w'=>e= .returned (.int .i64 (runB s.data.toList:Nat))∧w'=w:=by
 have HB:=Zhd (fun c=>Zavm c w)
 go_enter func181,ntmps181;go_wp2;go_loopw [3] (fun vi wr=> ∃ k:Nat,k≤s.size∧vi= .int .i64 k∧wr=w∧Hid (runB s.data.toList=k+runB (s.data.toList.drop k))) (fun vi _=>s.size-(intOf vi).toNat)
 case atStart=>exact⟨0,Yas _,rfl,rfl,by show _=_;simp⟩
 case round=>
  obtain⟨k,hk,rfl,rfl,HQ⟩:=hrel;by_cases hlt:k<s.size
  · have hd:=drop_at hlt
    have hst:Hid (runB s.data.toList=k+(if Zna s[k]=true then runB (s.data.toList.drop (k+1))+1 else 0)):=by
     show _=_;rw[HQ.out,hd];rfl
    have HC:=Zhd (HB.out s[k]);clear HQ hd;generalize Zna s[k]=b at *;cases b with
    | true=>
      have HN:Hid (runB s.data.toList=(k+1)+runB (s.data.toList.drop (k+1))):=by show _=_;rw[hst.out,Yam rfl];omega
      clear hst;go_wp2_with (go_at_call 216;refine HC.out.mono ?_;rintro e w' ⟨rfl,rfl⟩);go_roundw
      case rel=>exact⟨k+1,by omega,by go_num,by simp,HN⟩
      case measure=>simp[intOf];omega
    | false=>
      have HN:Hid (runB s.data.toList=k):=by show _=_;rw[hst.out,Yab (by decide)];rfl
      clear hst;go_wp2_with (go_at_call 216;refine HC.out.mono ?_;rintro e w' ⟨rfl,rfl⟩);go_ret;exact⟨by rw[HN.out];rfl,rfl⟩
  · obtain rfl:k=s.size:=by omega
    have HN:Hid (runB s.data.toList=s.size):=by show _=_;rw[HQ.out,Ybe (by rw[Zak];exact Yaf _)];rfl
    clear HQ;go_wp2;go_ret;exact⟨by rw[HN.out];rfl,rfl⟩
theorem Zgy (s:ByteArray) (l:List UInt8):(s.toList==l)=decide (s.data.toList=l):=by
 rw[Lib.toList_data,Yby,beq_iff_eq,Yao]
theorem Zaxr (s:ByteArray) (w:World):Calls prog 182 #[.string s] w fun e w'=>e= .returned (.bool (markB s.data.toList))∧w'=w:=by
 have HP:=Zhd (Tryz.strings_HasPrefix s ⟨#[47,42]⟩ w);have HX:Hid (markB s.data.toList=(decide (s.data.toList=Zaw)||decide (s.data.toList=Zbk)||Lib.hasPrefix s.data.toList [47,42])):=rfl
 have q1:(s.toList== [105,110,97,99,116,105,118,101,58])=decide (s.data.toList=Zaw):=Zgy s _;have q2:(s.toList== [112,114,111,116,101,99,116,58])=decide (s.data.toList=Zbk):=Zgy s _;have p1:decide (s.toList= [105,110,97,99,116,105,118,101,58])=decide (s.data.toList=Zaw):=by rw[←q1,Yby,Yao,beq_iff_eq]
 have p2:decide (s.toList= [112,114,111,116,101,99,116,58])=decide (s.data.toList=Zbk):=by rw[←q2,Yby,Yao,beq_iff_eq]
 generalize decide (s.data.toList=Zaw)=b1 at *;generalize decide (s.data.toList=Zbk)=b2 at *;generalize Lib.hasPrefix s.data.toList [47,42]=b3 at *;cases b1 with
 | true=>
   have hK:Hid (markB s.data.toList=true):=by show _=_;rw[HX.out];rfl
   clear HX q2 p2 p1;go_enter func182,ntmps182;go_wp2_with fail;go_ret;exact⟨Zah hK.out.symm,rfl⟩
 | false=>
   have p1': ¬ s.toList= [105,110,97,99,116,105,118,101,58]:=of_decide_eq_false p1;clear p1;cases b2 with
   | true=>
     have hK:Hid (markB s.data.toList=true):=by show _=_;rw[HX.out];rfl
     clear HX p2;go_enter func182,ntmps182;go_wp2_with fail;go_ret;exact⟨Zah hK.out.symm,rfl⟩
   | false=>
     have p2': ¬ s.toList= [112,114,111,116,101,99,116,58]:=of_decide_eq_false p2;clear p2;have hK:Hid (markB s.data.toList=b3):=by show _=_;rw[HX.out];rfl
     clear HX;go_enter func182,ntmps182;go_wp2_with (go_at_call 104;refine HP.out.mono ?_;rintro e w' ⟨rfl,rfl⟩);go_ret;exact⟨Zah hK.out.symm,rfl⟩
theorem Zoo (s:ByteArray) (p:Nat):(s.extract p s.size).data.toList=s.data.toList.drop p:=by
 rw[Lib.extract_data,Ybh (by rw[Yan,Zak];exact Yaf _)]
theorem Zgq {s:ByteArray} (p q:Nat) (h:q≤s.size):(s.extract p q).size=q-p:=by
 rw[←Zak,Lib.extract_data,Yah,Yan,Zak];omega
theorem ne34 {b c:UInt8} (h:b≠c):((b.toNat:Int)==(c.toNat:Int))=false:=by
 rw[Yak];intro e;exact h (Ybx.1 (by omega))
theorem Zazf {c:UInt8} {l:List UInt8} (h:c≠34):Zet (c::l)=runB (c::l):=by
 show(if c=34 then _ else _)=_
 rw[Yab h]
def Zik (p n:Nat):Value:= .tuple #[.int .i64 (if n=0 then 0 else((p+n:Nat):Int)), .bool (decide (0<n))]
theorem Zaze (s:ByteArray) (p:Nat) (w:World) (hs:s.size≤1000000000) (hp:p<s.size) (h34:s[p]≠34):
 Calls prog 146 #[.string s, .int .i64 p] w fun e w'=>e= .returned (Zik p (Zet (s.data.toList.drop p)))∧w'=w:=by
 have hR:=Zafg (s.extract p s.size) w (by rw[Zgq p s.size (Yaf _)];omega)
 rw[Zoo,show runB (s.data.toList.drop p)=Zet (s.data.toList.drop p) by rw[drop_at hp,Zazf h34]]at hR
 have hle:=Zzj (s.data.toList.drop p);rw[Yan,Zak]at hle;have HR:=Zhd hR;have hne:((s[p].toNat:Int)==34)=false:=ne34 h34;clear hR h34;generalize Zet (s.data.toList.drop p)=n at *;go_enter func146,ntmps146;by_cases h0:n=0
 · subst h0;go_wp2_with (go_at_call 181;refine HR.out.mono ?_;rintro e w' ⟨rfl,rfl⟩);exact bodyPost_ret (v:=Zik p 0) (by simp[results,results146,go_sem,Zik]) rfl ⟨rfl,rfl⟩
 · have hn:((n:Int)==0)=false:=by rw[Yak];omega
   go_wp2_with (go_at_call 181;refine HR.out.mono ?_;rintro e w' ⟨rfl,rfl⟩);exact bodyPost_ret (v:=Zik p n) (by simp[results,results146,go_sem,Zik,h0];omega) rfl ⟨rfl,rfl⟩
theorem Zase (c:UInt8) (w:World):Calls prog 145 #[.int .u8 (c.toNat:Int)] w fun e w'=>e= .returned (.int .i64 (Zjn c))∧w'=w:=by
 have hX:Hid (Zjn c=if c.toNat=123 then 2 else if c.toNat=125 then 3 else if c.toNat=59 then 4 else 0):=by
  show _=_;unfold Zjn;simp only[show(c=123)=(c.toNat=123)from propext ⟨fun h=>by rw[h];rfl,fun h=>Ybx.1 h⟩,show(c=125)=(c.toNat=125)from propext ⟨fun h=>by rw[h];rfl,fun h=>Ybx.1 h⟩,show(c=59)=(c.toNat=59)from propext ⟨fun h=>by rw[h];rfl,fun h=>Ybx.1 h⟩]
 have hc256:=c.toNat_lt;generalize c.toNat=n at *;by_cases h1:n=123
 · subst h1;go_enter func145,ntmps145;go_wp2;go_ret;exact⟨by rw[hX.out];rfl,rfl⟩
 · have g1:((n:Int)==123)=false:=by rw[Yak];omega
   by_cases h2:n=125
   · subst h2;go_enter func145,ntmps145;go_wp2;go_ret;exact⟨by rw[hX.out];rfl,rfl⟩
   · have g2:((n:Int)==125)=false:=by rw[Yak];omega
     by_cases h3:n=59
     · subst h3;go_enter func145,ntmps145;go_wp2;go_ret;exact⟨by rw[hX.out];rfl,rfl⟩
     · have g3:((n:Int)==59)=false:=by rw[Yak];omega
       have hK:Hid (Zjn c=0):=by show _=_;rw[hX.out,Yab h1,Yab h2,Yab h3]
       clear hX;go_enter func145,ntmps145;go_wp2;go_ret;exact⟨by rw[hK.out];rfl,rfl⟩
theorem Zbbm (s:ByteArray) (w:World):Calls prog 147 #[.string s] w fun e w'=>e= .returned (.int .i64 (bitB s.data.toList))∧w'=w:=by
 have q1:(s.toList== [105,110,97,99,116,105,118,101,58])=decide (s.data.toList=Zaw):=Zgy s _;have q2:(s.toList== [112,114,111,116,101,99,116,58])=decide (s.data.toList=Zbk):=Zgy s _;by_cases h1:s.data.toList=Zaw
 · have hK:Hid (bitB s.data.toList=1):=by show _=_;unfold bitB;rw[Yam h1]
   rw[Yal h1]at q1;clear h1 q2;go_enter func147,ntmps147;go_wp2;go_ret;exact⟨by rw[hK.out];rfl,rfl⟩
 · rw[Yai h1]at q1;have p1: ¬ s.toList= [105,110,97,99,116,105,118,101,58]:=by simpa using q1
   by_cases h2:s.data.toList=Zbk
   · have hK:Hid (bitB s.data.toList=2):=by show _=_;unfold bitB;rw[Yab h1,Yam h2]
     rw[Yal h2]at q2;clear h1 h2;go_enter func147,ntmps147;go_wp2;go_ret;exact⟨by rw[hK.out];rfl,rfl⟩
   · rw[Yai h2]at q2;have p2: ¬ s.toList= [112,114,111,116,101,99,116,58]:=by simpa using q2
     have hK:Hid (bitB s.data.toList=0):=by show _=_;unfold bitB;rw[Yab h1,Yab h2]
     clear h1 h2;go_enter func147,ntmps147;go_wp2;go_ret;exact⟨by rw[hK.out];rfl,rfl⟩
theorem Zapb:(prog.info? 5).map (fun i=>(i.zero,i.size,i.bytes))=some (some (.int .u8 0),1,1):=by kernel_rfl
theorem Zaie:(prog.info? 221).map (·.size)=some 2:=by kernel_rfl
theorem Zaxi:liesAt prog prog.depth 221 (2/prog.cellsOf 221) 0 221 1=true:=by kernel_rfl
theorem Zvg (b:Nat) (w:World) (h0:w.cell? ⟨b,0,none⟩=some (.pointer (some ⟨b,0,none⟩))):
 Calls prog 210 #[.pointer (some ⟨b,0,none⟩)] w fun e w'=>e= .returned (.tuple #[])∧w'=w:=by
 obtain⟨j,hj,_⟩:=Option.map_eq_some_iff.1 Zaie;go_enter func210,ntmps210;go_wp2;rw[Lib.run_neq_ptr_same w _ underlying219 hj];go_wp2;go_end0;exact⟨rfl,rfl⟩
theorem Zsv (b:Nat) (w:World) (h0:w.cell? ⟨b,0,none⟩=some (.pointer none)) (hsh:w.shape? b=some (221,2)) (hfz:w.frozen? ⟨b,0,none⟩=false):
 Calls prog 210 #[.pointer (some ⟨b,0,none⟩)] w fun e w'=>e= .returned (.tuple #[])∧w'=w.setCell ⟨b,0,none⟩ (.pointer (some ⟨b,0,none⟩)):=by
 obtain⟨j,hj,hjs⟩:=Option.map_eq_some_iff.1 Zaie;go_enter func210,ntmps210;go_wp2;rw[Lib.run_to_unsafe w ⟨b,0,none⟩ underlying219 underlying272 hj (by rw[hjs];decide) hsh (Nat.zero_lt_succ 1)]
 simp only[Result.andThen];rw[Oper.upon_value];go_wp2;rw[run_callFunc_extern func238 (by kernel_rfl) (by kernel_rfl) (by kernel_rfl) (e:=Extern.AbiNoEscape.same) (by kernel_rfl)]
 rw[Lib.run_noEscape];simp only[Result.andThen];rw[Oper.upon_value];go_wp2;rw[Lib.run_from_unsafe w ⟨b,0,none⟩ underlying272 underlying219 hj hsh Zaxi];simp only[Result.andThen];rw[Oper.upon_value];go_wp2;go_end0;exact⟨rfl,rfl⟩
theorem Zxs (B b:Nat) (bs:List Value) (w:World) (h:Lib.IsBuilder 221 5 B b bs w):
 Calls prog 210 #[.pointer (some ⟨b,0,none⟩)] w fun e w'=>e= .returned (.tuple #[])∧(Lib.BuilderAt 221 5 B b (.pointer (some ⟨b,0,none⟩)) bs w'∧Below B w w'):=by
 rcases h with h|h
 · refine(Zsv b w h.cell0 h.shape h.frozen0).mono ?_;rintro e w' ⟨rfl,rfl⟩;exact⟨rfl,h.used _,(Yag B w).setCell (p:=⟨b,0,none⟩) h.1 _⟩
 · refine(Zvg b w h.cell0).mono ?_;rintro e w' ⟨rfl,rfl⟩;exact⟨rfl,h,Yag B _⟩
theorem Zzs (B b:Nat) (bs:List Value) (c:Int) (w:World) (h:Lib.IsBuilder 221 5 B b bs w) (hlen:bs.length+1≤1000000000) (_:B≤w.heap.size):
 Calls prog 218 #[.pointer (some ⟨b,0,none⟩), .int .u8 c] w fun e w'=>e= .returned .nilIface∧(Lib.BuilderAt 221 5 B b (.pointer (some ⟨b,0,none⟩)) (bs++ [.int .u8 c]) w'∧Below B w w'):=by
 obtain⟨i0,hi,hz0,hz1,hz2⟩:=info_parts Zapb;go_enter func218,ntmps218;go_wp2_with fail;refine(Zxs B b bs _ h).mono ?_;rintro e w1 ⟨rfl,h1,hb1⟩;obtain⟨hB,v,hbk,hown,hne⟩:=h1;have c0:w1.cell? ⟨b,0,none⟩=some (.pointer (some ⟨b,0,none⟩)):=by rw[Lib.cell_of_heap hbk];rfl
 have c1:w1.cell? ⟨b,1,none⟩=some v:=by rw[Lib.cell_of_heap hbk];rfl
 go_wp2_with (at_builtin;refine wpList_append_own _ rfl _ _ 65 rfl B 5 i0 (.int .u8 0) 1 1 underlying65 hi hz0 hz1 hz2 rfl (by decide) _ _ _ rfl (hown.alloc _) ⟨w1.heap.size,0,none⟩ 1 1 [.int .u8 c] rfl rfl ?c1 ?c2 ?c3 ?c4 ?c5 ?_)
 case c1=>
  intro j u hj
  match j,hj with
  |0,hj=>simp at hj;subst hj;simp[Addr.add]
 case c2=>intro u hu;simp at hu;subst hu;rfl
 case c3=>unfold maxLen;omega
 case c4=>omega
 case c5=>have:=hb1.size;simp;omega
 intro v' w2 hown' hgrow _;have hlt:b<w1.heap.size:=by
  rcases Ybp b w1.heap.size with h'|h'
  · exact h'
  · simp[Array.getElem?_eq_none h']at hbk
 have hb2:w2.heap[b]?=some (.cells #[.pointer (some ⟨b,0,none⟩),v] 221 (0,0)):=by
  rw[hgrow.block b (by simp;omega) (fun e=>hne e.symm),Lib.alloc_old w1 _ b hlt]
  exact hbk
 have d0:w2.cell? ⟨b,0,none⟩=some (.pointer (some ⟨b,0,none⟩)):=by rw[Lib.cell_of_heap hb2];rfl
 have d1:w2.cell? ⟨b,1,none⟩=some v:=by rw[Lib.cell_of_heap hb2];rfl
 have f1:w2.frozen? ⟨b,1,none⟩=false:=Lib.frozen_of_heap hb2 1
 obtain⟨g,cap,rfl⟩: ∃ g cap,v'= .slice (some ⟨g,0,none⟩) (bs.length+1) cap:=by
  rcases hown'.2 with⟨_,h0⟩|⟨g,cap,cur,hv,_⟩
  · omega
  · exact⟨g,cap,hv⟩
 go_wp2;go_ret;refine⟨rfl, ?_, ?_⟩
 · exact Lib.BuilderAt.put (T:=221) (e:=5) hB hb2 (bs':=bs++ [.int .u8 c]) (by simpa using hown') (by decide)
 · exact((hb1.alloc (by have:=hb1.size;omega) _).grown hgrow (by have:=hb1.size;simp;omega) (fun k hk=>(hown.lt k hk).1)).setCell (p:=⟨b,1,none⟩) hB _
end Go.Proofs.Zq
namespace Adr
open Go
theorem parts_len (c:UInt8) (l:List UInt8):(parts c l).length≤l.length+1:=by
 induction l with
 |nil=>simp[Zpg]
 | cons b r ih=>
   by_cases h:b=c
   · subst h;rw[Zmt];simp;omega
   · rw[Zfb _ _ _ h,Zaaa _ _ (Zpf _ _)];simp;omega
theorem parts_short (c:UInt8) (l p:List UInt8) (h:p∈parts c l):p.length≤l.length:=by
 induction l generalizing p with
 |nil=>simp[Zpg]at h;subst h;simp
 | cons b r ih=>
   by_cases hb:b=c
   · subst hb;rw[Zmt,Yav]at h;rcases h with rfl|h
     · simp
     · have:=ih p h;simp;omega
   · rw[Zfb _ _ _ hb]at h;cases hp:parts c r with
     |nil=>exact absurd hp (Zpf c r)
     | cons x y=>
       rw[hp]at h ih;simp only[ahead,Yav]at h;rcases h with rfl|h
       · have:=ih x (by simp);simp;omega
       · have:=ih p (by simp[h]);simp;omega
end Adr
namespace Go.Proofs.Zq
open Tryz
open Go.RowKit
theorem Zei:(prog.info? 9).map (fun i=>(i.zero,i.size,i.bytes))=some (some (.string ⟨#[]⟩),1,16):=by kernel_rfl
def Zxb (w:World) (c:UInt8) (l:List UInt8) (e:Ending) (w':World):Prop:=
 ∃ A cap,e= .returned (.slice A (Adr.parts c l).length cap)∧(Adr.parts c l).length≤cap∧cap≤maxLen∧Rd w' 1 A (Adr.parts c l).length (strs (Adr.parts c l))∧Below w.heap.size w w'
end Go.Proofs.Zq
namespace Adr
open Go
theorem Zbgx: ∀ k:Fin 256,bits .or .u8 ((k.val:Nat):Int) 32=(((UInt8.ofNat k.val|||32).toNat:Nat):Int):=by decide+kernel
theorem or_byte (c:UInt8):bits .or .u8 (c.toNat:Int) 32=((c|||32).toNat:Int):=by
 have:=Zbgx ⟨c.toNat,c.toNat_lt⟩;simpa using this
end Adr
namespace Go.Proofs.Zq
open Tryz
open Go.Shelf Go.RowKit
variable {P:Program} {ρ:Ren}
def inner (T:TypeId):Option (Option Nat)→Value
 |some (some u)=> .tuple #[.int .u64 (u:Int), .nilIface]
 |some none=> .tuple #[.int .u64 281474976710655, .iface T (.int .i64 1)]
 |none=> .tuple #[.int .u64 0, .iface T (.int .i64 2)]
theorem Zov (L:LaysPu.n19 P ρ) (x m:Int) (h:bits .or .u8 x 32=m) (w:World):
 Calls P (ρ.f 19) #[.int .u8 x] w fun e w'=>e= .returned (.int .u8 m)∧w'=w:=by
 subst h;exact AnyPu.internal_strconv_lower L x w
theorem Zbcl (L:LaysPu.n16 P ρ) (t:ByteArray) (hne:t.size≠0) (hmax:t.size≤9223372036854775806) (w:World):
 Calls P (ρ.f 16) #[.string t, .int .i64 16, .int .i64 48] w fun e w'=>e= .returned (inner (ρ.t 34) (Adr.parse16 0 t.data.toList))∧w'=Lib.bytesWorld w (ρ.t 5) t:=by
 have mixed:=L.mixed;have t9:=L.t9;have a9:=L.a9;have z9:=L.z9;have v9:=L.v9;have t3:=L.t3;have a3:=L.a3;have z3:=L.z3;have v3:=L.v3;have t22:=L.t22;have a22:=L.a22;have z22:=L.z22;have v22:=L.v22;have t24:=L.t24;have a24:=L.a24;have z24:=L.z24;have v24:=L.v24;have t4:=L.t4;have a4:=L.a4;have z4:=L.z4;have v4:=L.v4;have t34:=L.t34;have a34:=L.a34;have z34:=L.z34;have v34:=L.v34;have t5:=L.t5;have a5:=L.a5;have z5:=L.z5;have v5:=L.v5;have t36:=L.t36;have a36:=L.a36;have z36:=L.z36;have v36:=L.v36;have t37:=L.t37;have a37:=L.a37;have z37:=L.z37;have v37:=L.v37;have t0:=L.t0;have a0:=L.a0;have z0:=L.z0;have v0:=L.v0;have e19: ∀ args w,(callFunc (ρ.f 19) args).run P w= .ok (.enter (ρ.f 19) args) w:=enters_of L.f19 (by kernel_rfl) rfl
 have hemp:t.toList.isEmpty=false:=by
  rw[←decide_eq_emptyBytes];exact Yai (fun h=>hne (by rw[h];rfl))
 have hcv:=Lib.run_convert_string_bytes (P:=P) w (ρ.t 9) (ρ.t 37) (ρ.t 5) t (u:= .string) L.t9 L.t37 L.t5;have hB: ∀ j,j<t.size→(Lib.bytesWorld w (ρ.t 5) t).cell? ⟨w.heap.size,j,none⟩=some (.int .u8 (t.data.toList.getD j 0).toNat):=fun j hj=>Lib.bytesWorld_cell w (ρ.t 5) t j hj
 obtain⟨W1,hW1⟩: ∃ W1,W1=Lib.bytesWorld w (ρ.t 5) t:=⟨_,rfl⟩;rw[←hW1]at hcv hB⊢;clear hW1;obtain⟨bs,hL⟩: ∃ bs,bs=t.data.toList:=⟨_,rfl⟩;have hLn:bs.length=t.size:=by rw[hL,Lib.size_eq]
 rw[←hL]at hB⊢;clear hL
 have hmv:IntKind.u64.wrap (IntKind.u64.wrap 281474976710656-1)=281474976710655:=by
  rw[IntKind.wrap_u64,IntKind.wrap_u64];decide
 go_enter L.f16,BodyPu.n16_ntmps ρ;go_wp2
 go_loop [12,13,101] (fun vu vn vi=> ∃ (k acc:Nat) (a:Int),vu= .bool false∧vn= .int .u64 a∧vi= .int .i64 k∧k≤t.size∧Hid (a=(acc:Int)∧acc≤281474976710655∧Adr.parse16 0 bs=Adr.parse16 acc (bs.drop k)))
  (fun _ _ vi=>t.size-(intOf vi).toNat)
 case atStart=>exact⟨0,0,0,rfl,rfl,rfl,by omega,rfl,by omega,rfl⟩
 case round =>
  obtain⟨k,acc,a,rfl,rfl,rfl,hk,hh⟩:=hrel;obtain⟨ha,hacc,hdec⟩:=hh.out;clear hh;have a0:0≤a:=by omega
  have a1:a≤281474976710655:=by omega
  by_cases hkn:k<t.size
  · have hc := hB k hkn;have hdrop:bs.drop k=bs[k]'(by omega)::bs.drop (k+1):=Yaz (by omega)
    have hget:bs.getD k 0=bs[k]'(by omega):=by simp[List.getD,List.getElem?_eq_getElem (show k<bs.length by omega)]
    rw[hdrop]at hdec;rw[hget]at hc;generalize bs[k]'(by omega)=c at hc hdec
    have hc256:c.toNat<256:=c.toNat_lt;clear hB hdrop hget;by_cases hdig:48≤c.toNat∧c.toNat≤57
    · obtain⟨hd0,hd1⟩:=hdig;have hd:Adr.dig36 c=c.toNat-48:=by unfold Adr.dig36;rw[Yam ⟨hd0,hd1⟩]
      have hF:Adr.parse16 acc (c::bs.drop (k+1))=if 281474976710656≤acc*16+(c.toNat-48)then some none else Adr.parse16 (acc*16+(c.toNat-48)) (bs.drop (k+1)):=by
       rw[Adr.parse16,hd,Yab (by omega)]
      rw[hF]at hdec;clear hd hF;by_cases hov:281474976710656≤acc*16+(c.toNat-48)
      · rw[Yam hov]at hdec;have iov:281474976710655<a*16+((c.toNat:Int)-48):=by omega
        clear hacc hov ha;go_wp2;go_ret2;exact⟨rfl,rfl⟩
      · rw[Yab hov]at hdec;have HN:Hid (a*16+((c.toNat:Int)-48)=((acc*16+(c.toNat-48):Nat):Int)∧acc*16+(c.toNat-48)≤281474976710655∧Adr.parse16 0 bs=Adr.parse16 (acc*16+(c.toNat-48)) (bs.drop (k+1))):=Zhd ⟨by omega,by omega,hdec⟩
        have iov:a*16+((c.toNat:Int)-48)≤281474976710655:=by omega
        clear hacc hov hdec ha;go_wp2;refine⟨⟨k+1,acc*16+(c.toNat-48),a*16+((c.toNat:Int)-48),rfl,(by first|rfl|(congr 1;omega)),(by first|rfl|(congr 1;omega)),by omega,HN⟩,by simp[intOf];omega⟩
    · have Hlo :=Zhd (Adr.or_byte c);by_cases h95:c.toNat=95
      · obtain rfl:c=95:=Ybx.1 (by rw[h95];rfl)
        have hF:Adr.parse16 acc (95::bs.drop (k+1))=none:=by rw[Adr.parse16,Yam (by decide)]
        rw[hF]at hdec;clear hacc hF ha Hlo h95 hdig hc256;have Hu:=Zhd (show bits .or .u8 95 32=127 by decide+kernel)
        go_wp2_with (go_at_fn (ρ.f 19);refine(Zov {L with} _ 127 Hu.out _).mono ?_;rintro e w' ⟨rfl,rfl⟩)
        all_goals go_ret2
        all_goals first|exact⟨rfl,rfl⟩|exact⟨by rw[hdec];rfl,rfl⟩
      · have hn95:((c.toNat:Int)==95)=false:=by rw[Yak];omega
        have hcase:c.toNat<48∨57<c.toNat:=by omega
        by_cases hlet:97≤(c|||32).toNat∧(c|||32).toNat≤122
        · have hd:Adr.dig36 c=(c|||32).toNat-97+10:=by unfold Adr.dig36;rw[Yab hdig,Yam hlet]
          rw[Adr.parse16,hd]at hdec;clear hd hdig h95;generalize (c|||32).toNat=lo at Hlo hdec hlet
          obtain⟨hl0,hl1⟩:=hlet;by_cases h16:16≤lo-97+10
          · rw[Yam h16]at hdec;have i16:102<lo:=by omega
            clear h16 hacc ha;rcases hcase with hcase|hcase
            all_goals
             go_wp2_with (go_at_fn (ρ.f 19);refine(Zov {L with} _ (lo:Int) Hlo.out _).mono ?_;rintro e w' ⟨rfl,rfl⟩)
             all_goals go_ret2
             all_goals first|exact⟨rfl,rfl⟩|exact⟨by rw[hdec];rfl,rfl⟩
          · rw [Yab h16]at hdec;have i16:lo≤102:=by omega
            clear h16;by_cases hov:281474976710656≤acc*16+(lo-97+10)
            · rw[Yam hov]at hdec;have iov:281474976710655<a*16+((lo:Int)-97+10):=by omega
              clear hacc hov ha;rcases hcase with hcase|hcase
              all_goals
               go_wp2_with (go_at_fn (ρ.f 19);refine(Zov {L with} _ (lo:Int) Hlo.out _).mono ?_;rintro e w' ⟨rfl,rfl⟩)
               all_goals go_ret2
               all_goals first|exact⟨rfl,rfl⟩|exact⟨by rw[hdec];rfl,rfl⟩
            · rw[Yab hov]at hdec;have HN:Hid (a*16+((lo:Int)-97+10)=((acc*16+(lo-97+10):Nat):Int)∧acc*16+(lo-97+10)≤281474976710655∧Adr.parse16 0 bs=Adr.parse16 (acc*16+(lo-97+10)) (bs.drop (k+1))):=Zhd ⟨by omega,by omega,hdec⟩
              have iov:a*16+((lo:Int)-97+10)≤281474976710655:=by omega
              clear hacc hov hdec ha;rcases hcase with hcase|hcase
              all_goals
               go_wp2_with (go_at_fn (ρ.f 19);refine(Zov {L with} _ (lo:Int) Hlo.out _).mono ?_;rintro e w' ⟨rfl,rfl⟩)
               refine⟨⟨k+1,acc*16+(lo-97+10),a*16+((lo:Int)-97+10),rfl,(by first|rfl|(congr 1;omega)),(by first|rfl|(congr 1;omega)),by omega,HN⟩,by simp[intOf];omega⟩
        · have hd:Adr.dig36 c=255:=by unfold Adr.dig36;rw[Yab hdig,Yab hlet]
          rw[Adr.parse16,hd,Yam (by decide)]at hdec
          clear hd hdig h95 hacc ha;generalize (c|||32).toNat=lo at Hlo hlet
          have hl2:lo<97∨122<lo:=by omega
          clear hlet;rcases hcase with hcase|hcase<;>rcases hl2 with hl2|hl2
          all_goals
           go_wp2_with (go_at_fn (ρ.f 19);refine(Zov {L with} _ (lo:Int) Hlo.out _).mono ?_;rintro e w' ⟨rfl,rfl⟩)
           all_goals go_ret2
           all_goals first|exact⟨rfl,rfl⟩|exact⟨by rw[hdec];rfl,rfl⟩
  · have hkk:k=t.size:=by omega
    subst hkk;have hF:Adr.parse16 acc (bs.drop t.size)=some (some acc):=by rw[Ybe (by omega)];rfl
    rw[hF]at hdec;subst ha;clear hacc hF a0 a1;go_wp2;go_ret2;exact⟨rfl,rfl⟩
theorem Zaed (L:LaysPu.n16 P ρ) (t:ByteArray) (hmax:t.size≤9223372036854775806) (w:World):
 Calls P (ρ.f 16) #[.string t, .int .i64 16, .int .i64 48] w fun e w'=>e= .returned (inner (ρ.t 34) (Adr.parseMac t.data.toList))∧(w'=w∨w'=Lib.bytesWorld w (ρ.t 5) t):=by
 by_cases h0:t.size=0
 · have ht:t=⟨#[]⟩:=by
    apply ByteArray.ext;exact Array.eq_empty_of_size_eq_zero h0
   subst ht;exact(AnyPu.internal_strconv_ParseUint_empty {L with} 16 48 w).mono fun e w' ⟨he,hw⟩=>⟨he,Or.inl hw⟩
 · have hne:t.data.toList≠ []:=fun h=>h0 (by rw[Lib.size_eq,h];rfl)
   refine(Zbcl {L with} t h0 hmax w).mono fun e w' ⟨he,hw⟩=>⟨?_,Or.inr hw⟩
   rw[he,Adr.parseMac,Yab hne]
def Zamj (T:TypeId) (r:Option (Option Nat)) (e:Ending):Prop:=
 match r with
 |some (some u)=>e= .returned (.tuple #[.int .u64 (u:Int), .nilIface])
 |none=> ∃ p,e= .returned (.tuple #[.int .u64 0, .iface T p])
 |some none=> ∃ p,e= .returned (.tuple #[.int .u64 281474976710655, .iface T p])
theorem Zaex (L:LaysPu.n14 P ρ) (s:ByteArray) (hlim:s.size≤281474976710656) (t1 t2:TypeId) (p1 p2:Value) (w:World)
 (hv0:w.cell? ⟨(ρ.g 0),0,none⟩=some (.iface t1 p1)) (hv1:w.cell? ⟨(ρ.g 1),0,none⟩=some (.iface t2 p2)):
 Calls P (ρ.f 14) #[.string s, .int .i64 16, .int .i64 48] w fun e w'=>Zamj (ρ.t 39) (Adr.parseMac s.data.toList) e∧Below w.heap.size w w':=by
 have mixed:=L.mixed;have t9:=L.t9;have a9:=L.a9;have z9:=L.z9;have v9:=L.v9;have t3:=L.t3;have a3:=L.a3;have z3:=L.z3;have v3:=L.v3;have t22:=L.t22;have a22:=L.a22;have z22:=L.z22;have v22:=L.v22;have t24:=L.t24;have a24:=L.a24;have z24:=L.z24;have v24:=L.v24;have t25:=L.t25;have a25:=L.a25;have z25:=L.z25;have v25:=L.v25;have t4:=L.t4;have a4:=L.a4;have z4:=L.z4;have v4:=L.v4;have e16: ∀ args w,(callFunc (ρ.f 16) args).run P w= .ok (.enter (ρ.f 16) args) w:=enters_of L.f16 (by kernel_rfl) rfl
 have e17: ∀ args w,(callFunc (ρ.f 17) args).run P w= .ok (.enter (ρ.f 17) args) w:=enters_of L.f17 (by kernel_rfl) rfl
 have hG0:(ρ.g 0)<w.heap.size:=Lib.lt_of_cell hv0;have hG1:(ρ.g 1)<w.heap.size:=Lib.lt_of_cell hv1;have hI:=Zaed {L with} s (by omega) w
 rcases h:Adr.parseMac s.data.toList with _|(_|u)
 rotate_left 2
 ·
  rw[h]at hI;have hI:Calls P (ρ.f 16) #[.string s, .int .i64 16, .int .i64 48] w fun e w'=>e= .returned (.tuple #[.int .u64 u, .nilIface])∧(w'=w∨w'=Lib.bytesWorld w (ρ.t 5) s):=hI
  clear h hv0 hv1;go_enter L.f14,BodyPu.n14_ntmps ρ;go_wp2_with (go_at_fn (ρ.f 16);refine hI.mono ?_;rintro e W1 ⟨rfl,hW⟩);go_wp2;go_ret2;refine⟨rfl, ?_⟩;rcases hW with rfl|rfl
  · exact Yag _ _
  · exact Lib.bytesWorld_below _ _ _
 ·
  rw[h]at hI;have hI:Calls P (ρ.f 16) #[.string s, .int .i64 16, .int .i64 48] w fun e w'=>e= .returned (.tuple #[.int .u64 0, .iface (ρ.t 34) (.int .i64 2)])∧(w'=w∨w'=Lib.bytesWorld w (ρ.t 5) s):=hI
  clear h;go_enter L.f14,BodyPu.n14_ntmps ρ;go_wp2_with (go_at_fn (ρ.f 16);refine hI.mono ?_);rintro e W1 ⟨rfl,hW⟩;have hb1:Below w.heap.size w W1:=by
   rcases hW with rfl|rfl
   · exact Yag _ _
   · exact Lib.bytesWorld_below _ _ _
  have hw1:W1.cell? ⟨(ρ.g 0),0,none⟩=some (.iface t1 p1):=(hb1.cell (show(⟨(ρ.g 0),0,none⟩:Addr).block<w.heap.size from hG0)).trans hv0
  clear hW hv0 hv1;go_wp2_with (go_at_fn (ρ.f 17);refine(AnyPu.strconv_toError_syntax {L with} ⟨#[80,97,114,115,101,85,105,110,116]⟩ s 16 48 (.iface t1 p1) _ hlim ?_ (Or.inr ⟨t1,p1,rfl⟩)).mono ?_)
  · exact hw1
  rintro e W2 ⟨N,rfl,h1,h2,h3⟩;go_wp2;go_ret2;exact⟨⟨_,rfl⟩,hb1.trans (h3.mono hb1.size)⟩
 ·
  rw[h]at hI;have hI:Calls P (ρ.f 16) #[.string s, .int .i64 16, .int .i64 48] w fun e w'=>e= .returned (.tuple #[.int .u64 281474976710655, .iface (ρ.t 34) (.int .i64 1)])∧(w'=w∨w'=Lib.bytesWorld w (ρ.t 5) s):=hI
  clear h;go_enter L.f14,BodyPu.n14_ntmps ρ;go_wp2_with (go_at_fn (ρ.f 16);refine hI.mono ?_);rintro e W1 ⟨rfl,hW⟩;have hb1:Below w.heap.size w W1:=by
   rcases hW with rfl|rfl
   · exact Yag _ _
   · exact Lib.bytesWorld_below _ _ _
  have hw1:W1.cell? ⟨(ρ.g 1),0,none⟩=some (.iface t2 p2):=(hb1.cell (show(⟨(ρ.g 1),0,none⟩:Addr).block<w.heap.size from hG1)).trans hv1
  clear hW hv0 hv1;go_wp2_with (go_at_fn (ρ.f 17);refine(AnyPu.strconv_toError_range {L with} ⟨#[80,97,114,115,101,85,105,110,116]⟩ s 16 48 (.iface t2 p2) _ hlim ?_ (Or.inr ⟨t2,p2,rfl⟩)).mono ?_)
  · exact hw1
  rintro e W2 ⟨N,rfl,h1,h2,h3⟩;go_wp2;go_ret2;exact⟨⟨_,rfl⟩,hb1.trans (h3.mono hb1.size)⟩
end Go.Proofs.Zq
namespace Adr
open Go
end Adr
namespace Go.Proofs.Zq
open Tryz
open Go.RowKit
end Go.Proofs.Zq
