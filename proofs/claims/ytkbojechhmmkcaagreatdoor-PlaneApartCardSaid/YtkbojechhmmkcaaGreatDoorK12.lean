import Derived.Test.YtkbojechhmmkcaaGreatDoorK11
set_option linter.unusedVariables false
set_option linter.unusedSimpArgs false
set_option maxHeartbeats 4000000
set_option maxRecDepth 100000
namespace Mtr
open Go Go.Lib Adr
def sNan:List UInt8:= [110,97,110]
def sInf:List UInt8:= [105,110,102]
def sNeg:List UInt8:= [45,105,110,102]
def Zol (l:List UInt8):Bool:=decide (l=sNan)||decide (l=sInf)||decide (l=sNeg)
def Zwo (l:List UInt8):Bool:=Zol l||(dec (trimPrefix l [45])).isSome
end Mtr
namespace Go.Proofs.Zq
open Tryz
open Go Go.RowKit Mtr
theorem Zmc (z:Int) (w:World):(callFunc 256 #[.int .u64 z]).run prog w= .ok (.value (.float .f64 z.toNat)) w:=by
 rw[run_callFunc_extern (e:=Extern.MathFloatBits.float64frombits) func256 (by kernel_rfl) (by kernel_rfl) (by kernel_rfl) (by kernel_rfl)];rfl
theorem Zaza (z:Nat) (w:World):(callFunc 257 #[.float .f64 z]).run prog w= .ok (.value (.int .u64 z)) w:=by
 rw[run_callFunc_extern (e:=Extern.MathFloatBits.float64bits) func257 (by kernel_rfl) (by kernel_rfl) (by kernel_rfl) (by kernel_rfl)];rfl
theorem Zbcu (w:World):Calls prog 252 #[] w fun e w'=>e= .returned (.float .f64 9221120237041090561)∧w'=w:=by
 have hx:=Zmc;go_enter func252,ntmps252;go_wp2;go_ret;exact⟨rfl,rfl⟩
theorem Zbcj (z:Int) (w:World):Calls prog 253 #[.int .i64 z] w fun e w'=>e= .returned (.float .f64 (if 0≤z then 9218868437227405312 else 18442240474082181120))∧w'=w:=by
 have hx:=Zmc;by_cases h:0≤z
 · go_enter func253,ntmps253;go_wp2;go_ret;exact⟨rfl,rfl⟩
 · go_enter func253,ntmps253;go_wp2;go_ret;exact⟨rfl,rfl⟩
theorem Zaal (x y:Nat) (w:World):Calls prog 237 #[.float .f64 x, .float .f64 y] w fun e w'=>(∃ z,e= .returned (.float .f64 z))∧w'=w:=by
 have hx:=Zmc;have hy:=Zaza;go_enter func237,ntmps237;go_wp2;go_ret;exact⟨⟨_,rfl⟩,rfl⟩
theorem Zads (s:ByteArray) (l:List UInt8):(s.toList==l)=decide (s.data.toList=l):=by
 rw[Lib.toList_data,Yby,beq_iff_eq,Yao]
def Zamh (l:List UInt8) (w:World) (e:Ending) (w':World):Prop:=(∃ f,e= .returned (.tuple #[.float .f64 f, .bool (Zol l)]))∧w'=w
theorem Zawg (s:ByteArray) (w:World):Calls prog 234 #[.string s] w (Zamh s.data.toList w):=by
 have HX:Hid (Zol s.data.toList=(decide (s.data.toList=sNan)||decide (s.data.toList=sInf)||decide (s.data.toList=sNeg))):=rfl
 have e1:=Zads s [110,97,110];have e2:=Zads s [105,110,102];have e3:=Zads s [45,105,110,102];have HN:=Zhd Zbcu;have HI:=Zhd Zbcj;by_cases h1:s.data.toList=sNan
 · have q1:(s.toList== [110,97,110])=true:=e1.trans (Yal h1);have q1':s.toList= [110,97,110]:=by simpa using q1
   have HK:Hid (Zol s.data.toList=true):=by show _=_;rw[HX.out,Yal h1];rfl
   clear e1 e2 e3 h1 HX;go_enter func234,ntmps234;go_wp2_with fail;refine(HN.out w).mono ?_;rintro e w' ⟨rfl,rfl⟩;go_wp2;exact bodyPost_ret (results_tmp2 rfl _ _ _) rfl ⟨⟨_,by rw[HK.out];rfl⟩,rfl⟩
 · have q1:(s.toList== [110,97,110])=false:=e1.trans (Yai h1);have q1': ¬ s.toList= [110,97,110]:=by simpa using q1
   by_cases h2:s.data.toList=sInf
   · have q2:(s.toList== [105,110,102])=true:=e2.trans (Yal h2);have q2':s.toList= [105,110,102]:=by simpa using q2
     have HK:Hid (Zol s.data.toList=true):=by show _=_;rw[HX.out,Yal h2];simp
     clear e1 e2 e3 h1 h2 HX;go_enter func234,ntmps234;go_wp2_with fail;refine(HI.out 1 w).mono ?_;rintro e w' ⟨rfl,rfl⟩;go_wp2;exact bodyPost_ret (results_tmp2 rfl _ _ _) rfl ⟨⟨_,by rw[HK.out];rfl⟩,rfl⟩
   · have q2:(s.toList== [105,110,102])=false:=e2.trans (Yai h2);have q2': ¬ s.toList= [105,110,102]:=by simpa using q2
     by_cases h3:s.data.toList=sNeg
     · have q3:(s.toList== [45,105,110,102])=true:=e3.trans (Yal h3);have q3':s.toList= [45,105,110,102]:=by simpa using q3
       have HK:Hid (Zol s.data.toList=true):=by show _=_;rw[HX.out,Yal h3];simp
       clear e1 e2 e3 h1 h2 h3 HX;go_enter func234,ntmps234;go_wp2_with fail;refine(HI.out (-1) w).mono ?_;rintro e w' ⟨rfl,rfl⟩;go_wp2;exact bodyPost_ret (results_tmp2 rfl _ _ _) rfl ⟨⟨_,by rw[HK.out];rfl⟩,rfl⟩
     · have q3:(s.toList== [45,105,110,102])=false:=e3.trans (Yai h3);have q3': ¬ s.toList= [45,105,110,102]:=by simpa using q3
       have HK:Hid (Zol s.data.toList=false):=by show _=_;rw[HX.out,Yai h1,Yai h2,Yai h3];rfl
       clear e1 e2 e3 h1 h2 h3 HX;go_enter func234,ntmps234;go_wp2;exact bodyPost_ret (results_tmp2 rfl _ _ _) rfl ⟨⟨_,by rw[HK.out];rfl⟩,rfl⟩
def Zade (l:List UInt8) (w:World) (e:Ending) (w':World):Prop:=(∃ f,e= .returned (.tuple #[.float .f64 f, .bool (Zwo l)]))∧Below w.heap.size w w'
theorem Zayw (s:ByteArray) (w:World) (hE:Env w) (hs:s.size≤100000000):Calls prog 209 #[.string s] w (Zade s.data.toList w):=by
 have HX:Hid (Zwo s.data.toList=(Zol s.data.toList||(dec (Lib.trimPrefix s.data.toList [45])).isSome)):=rfl
 have HG:=Zhd (Zawg s w);have HP:=Zhd (Tryz.strings_CutPrefix s ⟨#[45]⟩ w)
 have hlen:(Lib.trimPrefix s.data.toList [45]).length≤100000000:=by
  have:=Zak s;unfold Lib.trimPrefix;split
  · rw[Yan];omega
  · omega
 have HD:=Zhd (Zadr ⟨(Lib.trimPrefix s.data.toList [45]).toArray⟩ w hE (by rw[Zfs];exact hlen))
 rw[Zcw]at HD;have HC:=Zhd Zaal;have HQ:Hid (∀ W w',Below w.heap.size w W→w'=W→Below w.heap.size w w'):=fun W w' h e=>by rw[e];exact h
 have hRE: ∀ o,Zwo s.data.toList=o→ ∀ f W,Below w.heap.size w W→Zade s.data.toList w (.returned (.tuple #[.float .f64 f, .bool o])) W:=fun o ho f W hb=>⟨⟨f,by rw[ho]⟩,hb⟩
 have HRE:=Zhd hRE;clear hRE;unfold Zamh at HG;have HP2:Hid (Calls prog 235 #[.string s, .string ⟨#[45]⟩] w fun e w'=>e= .returned (.tuple #[.string ⟨(Lib.trimPrefix s.data.toList [45]).toArray⟩, .bool (Lib.hasPrefix s.data.toList [45])])∧w'=w):=HP.out
 clear HP;generalize Lib.trimPrefix s.data.toList [45]=t at *;generalize Lib.hasPrefix s.data.toList [45]=sg at *;cases heo:Zol s.data.toList with
 | true=>
   rw[heo]at HG HX;have HK:=Zhd (HRE.out true HX.out);clear HRE HX heo HD HP2;go_enter func209,ntmps209;go_wp2_with fail;refine HG.out.mono ?_;rintro e w' ⟨⟨f,rfl⟩,rfl⟩;clear HG;go_wp2;refine bodyPost_ret (results_tmp2 rfl _ _ _) rfl ?_;exact HK.out f _ (Yag _ _)
 | false=>
   rw[heo,Bool.false_or]at HX;rw[heo]at HG;clear heo;unfold Zbai at HD;cases hd:dec t with
   | none=>
     rw[hd]at HX HD;have HK:=Zhd (HRE.out false HX.out);clear HRE HX hd;go_enter func209,ntmps209;go_wp2_with fail;refine HG.out.mono ?_;rintro e w' ⟨⟨f,rfl⟩,rfl⟩;clear HG;go_wp2_with fail;refine HP2.out.mono ?_;rintro e w' ⟨rfl,rfl⟩;clear HP2;go_wp2_with fail;refine HD.out.mono ?_;rintro e w' ⟨rfl,hb⟩;clear HD;go_wp2;refine bodyPost_ret (results_tmp2 rfl _ _ _) rfl ?_;exact HK.out _ _ hb
   | some n=>
     rw[hd]at HX HD;have HK:=Zhd (HRE.out true HX.out);obtain⟨fq,hq⟩:=Zacj (P:=prog) 250 (n:Int);clear HRE HX hd;cases sg with
     | false=>
       go_enter func209,ntmps209;go_wp2_with fail;refine HG.out.mono ?_;rintro e w' ⟨⟨f,rfl⟩,rfl⟩;clear HG;go_wp2_with fail;refine HP2.out.mono ?_;rintro e w' ⟨rfl,rfl⟩;clear HP2;go_wp2_with fail;refine HD.out.mono ?_;rintro e w' ⟨rfl,hb⟩;clear HD;go_wp2;refine bodyPost_ret (results_tmp2 rfl _ _ _) rfl ?_;exact HK.out _ _ hb
     | true=>
       go_enter func209,ntmps209;go_wp2_with fail;refine HG.out.mono ?_;rintro e w' ⟨⟨f,rfl⟩,rfl⟩;clear HG;go_wp2_with fail;refine HP2.out.mono ?_;rintro e w' ⟨rfl,rfl⟩;clear HP2;go_wp2_with fail;refine HD.out.mono ?_;rintro e w1 ⟨rfl,hb⟩;clear HD;go_wp2_with fail;refine(HC.out _ _ _).mono ?_;rintro e w2 ⟨⟨z,rfl⟩,rfl⟩;go_wp2;refine bodyPost_ret (results_tmp2 rfl _ _ _) rfl ?_;exact HK.out _ _ hb
end Go.Proofs.Zq
namespace Sch
open Go Go.Lib Adr Mtr Tre
def Zch:ByteArray:=⟨#[104,111,115,116,115]⟩
def wIp:ByteArray:=⟨#[105,112]⟩
def wMac:ByteArray:=⟨#[109,97,99]⟩
def Zdv:ByteArray:=⟨#[118,110,105,115]⟩
def Zeb:ByteArray:=⟨#[115,117,98,110,101,116]⟩
def Zada:ByteArray:=⟨#[98,105,110,100,105,110,103,115]⟩
def Zbhq:ByteArray:=⟨#[104,111,115,116]⟩
def wVni:ByteArray:=⟨#[118,110,105]⟩
def Zqu:ByteArray:=⟨#[114,111,117,116,101,115]⟩
def wVia:ByteArray:=⟨#[118,105,97]⟩
def Zatg:ByteArray:=⟨#[109,101,116,114,105,99]⟩
def Zmf:ByteArray:=⟨#[112,111,108,105,99,121]⟩
def Zatf:ByteArray:=⟨#[97,99,116,105,111,110]⟩
def Zbhp:ByteArray:=⟨#[102,114,111,109]⟩
def wTo:ByteArray:=⟨#[116,111]⟩
def Zgw:ByteArray:=⟨#[36,110,97,109,101]⟩
def tIp:ByteArray:=⟨#[36,105,112]⟩
def Zip:ByteArray:=⟨#[36,112,114,101,102,105,120]⟩
def tMac:ByteArray:=⟨#[36,109,97,99]⟩
def tVni:ByteArray:=⟨#[36,118,110,105]⟩
def tNum:ByteArray:=⟨#[36,110,117,109]⟩
def Zafp:ByteArray:=⟨#[36,109,101,116,114,105,99]⟩
def Zafo:ByteArray:=⟨#[36,97,99,116,105,111,110]⟩
def Zafu:ByteArray:=⟨#[112,101,114,109,105,116]⟩
def Zbfq:ByteArray:=⟨#[100,101,110,121]⟩
def Zapf (c:UInt8):Bool:=decide (97≤c.toNat)&&decide (c.toNat≤122)
def isNm (c:UInt8):Bool:=Zapf c||Zdy c||c==45
def nameB (l:List UInt8):Bool:=decide (1≤l.length)&&decide (l.length≤16)&&Zapf (l.getD 0 0)&&l.all isNm
def Zga (k w:ByteArray):Bool:=
 if k=Zgw then nameB w.data.toList else if k=tIp then decide (0≤ip w.data.toList)else if k=Zip then decide (0≤(pre w.data.toList).1)
 else if k=tMac then decide (0≤mac w.data.toList)else if k=tVni then numIn w.data.toList 1 16777215 else if k=tNum then numIn w.data.toList 1 1000
 else if k=Zafp then Zwo w.data.toList else if k=Zafo then(decide (w=Zafu)||decide (w=Zbfq))else false
structure Rule where
 path:List ByteArray
 one:Bool
 needed:Bool
def Zan:List Rule:= [
 ⟨[Zch],false,false⟩,
 ⟨[Zch,Zgw],false,false⟩,
 ⟨[Zch,Zgw,wIp],true,true⟩,
 ⟨[Zch,Zgw,wIp,tIp],false,false⟩,
 ⟨[Zch,Zgw,wMac],true,false⟩,
 ⟨[Zch,Zgw,wMac,tMac],false,false⟩,
 ⟨[Zch,Zgw,Zdv],false,false⟩,
 ⟨[Zch,Zgw,Zdv,tVni],false,false⟩,
 ⟨[Zdv],false,false⟩,
 ⟨[Zdv,tVni],false,false⟩,
 ⟨[Zdv,tVni,Zeb],true,true⟩,
 ⟨[Zdv,tVni,Zeb,Zip],false,false⟩,
 ⟨[Zada],false,false⟩,
 ⟨[Zada,tIp],false,false⟩,
 ⟨[Zada,tIp,Zbhq],true,true⟩,
 ⟨[Zada,tIp,Zbhq,Zgw],false,false⟩,
 ⟨[Zada,tIp,wMac],true,true⟩,
 ⟨[Zada,tIp,wMac,tMac],false,false⟩,
 ⟨[Zada,tIp,wVni],true,true⟩,
 ⟨[Zada,tIp,wVni,tVni],false,false⟩,
 ⟨[Zqu],false,false⟩,
 ⟨[Zqu,Zip],false,false⟩,
 ⟨[Zqu,Zip,wVia],true,true⟩,
 ⟨[Zqu,Zip,wVia,Zgw],false,false⟩,
 ⟨[Zqu,Zip,Zatg],true,false⟩,
 ⟨[Zqu,Zip,Zatg,Zafp],false,false⟩,
 ⟨[Zmf],false,false⟩,
 ⟨[Zmf,tNum],false,false⟩,
 ⟨[Zmf,tNum,Zatf],true,true⟩,
 ⟨[Zmf,tNum,Zatf,Zafo],false,false⟩,
 ⟨[Zmf,tNum,Zbhp],true,false⟩,
 ⟨[Zmf,tNum,Zbhp,Zip],false,false⟩,
 ⟨[Zmf,tNum,wTo],true,false⟩,
 ⟨[Zmf,tNum,wTo,Zip],false,false⟩]
def Zln (p:ByteArray):Bool:=hasPrefix p.data.toList [36]
def Znb (p w:ByteArray):Bool:=if Zln p then Zga p w else decide (p=w)
def Zbt:List ByteArray→List ByteArray→Bool
 | [],[]=>true
 |p::ps,w::ws=>Znb p w&&Zbt ps ws
 | [],_::_=>false
 |_::_,[]=>false
def Zfi (p:List ByteArray):Option Rule:=Zan.find? fun r=>Zbt r.path p
def Zaes (p:List ByteArray) (r:Rule):Bool:=r.needed&&Zbt (r.path.take (r.path.length-1)) p
def Zapl (r:Rule):ByteArray:=r.path.getD (r.path.length-1) ⟨#[]⟩
def Zek (p:List ByteArray):List ByteArray:=(Zan.filter (Zaes p)).map Zapl
def Znr (p:List ByteArray) (r:Rule):Bool:=decide (r.path.length=p.length)&&Zbt (r.path.take (p.length-1)) (p.take (p.length-1))&&Zln (r.path.getD (p.length-1) ⟨#[]⟩)
def Zgl (p:List ByteArray):Int:=if Zan.any (Znr p)then 2 else 3
theorem Zbal {p:ByteArray} (h:Zln p=false) (w:ByteArray):Znb p w=decide (w=p):=by unfold Znb;rw[h];simp[eq_comm]
theorem Zbgj {p:ByteArray} (h:Zln p=true) (w:ByteArray):Znb p w=Zga p w:=by unfold Znb;rw[h];rfl
theorem Zadx (w:ByteArray):Znb Zch w=decide (w=Zch):=Zbal (by decide+kernel) w
theorem Zawq (w:ByteArray):Znb wIp w=decide (w=wIp):=Zbal (by decide+kernel) w
theorem Zakb (w:ByteArray):Znb Zgw w=Zga Zgw w:=Zbgj (by decide+kernel) w
theorem Zvi (p:ByteArray) (ps:List ByteArray):Zbt (p::ps) []=false:=rfl
theorem Zapw:Zbt [] []=true:=rfl
theorem Zwh (p w:ByteArray) (ps ws:List ByteArray):Zbt (p::ps) (w::ws)=(Znb p w&&Zbt ps ws):=rfl
theorem Zoy: ∀ {p q:List ByteArray},Zbt p q=true→p.length=q.length
 | [],[],_=>rfl
 | p::ps,w::ws,h=>by
   rw[Zwh,Yaq]at h;rw[Ybd,Ybd,Zoy h.2]
 | [],_::_,h=>by cases h
 |_::_,[],h=>by cases h
theorem Zaep {p q:List ByteArray} (h:p.length≠q.length):Zbt p q=false:=by
 rw[Yda];exact fun h2=>h (Zoy h2)
attribute [local simp] List.find?_cons Zwh Zapw Zvi Zadx Zawq Zakb 
theorem Zaet {p:List ByteArray} (h:p.length≠2):Zek p= []:=by
 unfold Zek;have hall: ∀ r∈Zan,r.needed=true→(r.path.take (r.path.length-1)).length=2:=by decide+kernel
 rw[List.filter_eq_nil_iff.2]
 · rfl
 · intro r hr h2;unfold Zaes at h2;rw[Yaq]at h2;have:=Zoy h2.2;rw[hall r hr h2.1]at this;omega
end Sch
namespace Mtr
open Go Go.Lib Adr
end Mtr
namespace Go.Proofs.Zq
open Tryz
open Go Go.RowKit Mtr
end Go.Proofs.Zq
namespace Sch
open Go Go.Lib Adr Mtr Tre
def Zaeu:List UInt8:= [97,98,99,100,101,102,103,104,105,106,107,108,109,110,111,112,113,114,115,116,117,118,119,120,121,122,48,49,50,51,52,53,54,55,56,57,45]
theorem Zbgt (c:UInt8):Zaeu.contains c=isNm c:=by
 have: ∀ n:Fin 256,Zaeu.contains (UInt8.ofNat n)=isNm (UInt8.ofNat n):=by decide+kernel
 have h:=this ⟨c.toNat,c.toNat_lt⟩;simpa using h
theorem Zbfl (l:List UInt8):(trimS l Zaeu).isEmpty=l.all isNm:=by
 rw[Yby,List.isEmpty_iff,Zaiq,show(fun x=>Zaeu.contains x)=isNm from funext Zbgt]
theorem Zaz (k:ByteArray) (l:List UInt8):(k.toList==l)=decide (k=⟨l.toArray⟩):=by
 rw[Lib.toList_data,Yby,beq_iff_eq,Yao];constructor
 · rintro rfl;exact(Lib.mk_data k).symm
 · rintro rfl;simp
end Sch
namespace Go.Proofs.Zq
open Tryz
open Go Go.RowKit Sch Adr Mtr
theorem Zaej {s:ByteArray} (h:s.size=0):s.toList.isEmpty=true:=by
 rw[Lib.toList_data,List.isEmpty_iff];exact Yde.1 (by rw[Zak];exact h)
theorem Zaxv (s:ByteArray) (w:World) (hs:s.size≤100000000):
 Calls prog 206 #[.string s] w fun e w'=>e= .returned (.bool (nameB s.data.toList))∧Below w.heap.size w w':=by
 have HX:Hid (nameB s.data.toList=(decide (1≤s.data.toList.length)&&decide (s.data.toList.length≤16)&&Zapf (s.data.toList.getD 0 0)&&s.data.toList.all isNm)):=rfl;have hsz:=Zak s;have HZ:=Zhd hsz;clear hsz;by_cases h0:s.size=0
 · have he:=Zaej h0;have he2:s.toList= []:=by simpa using he
   have HK:Hid (nameB s.data.toList=false):=by show _=_;rw[HX.out,HZ.out,Yai (by omega)];rfl
   clear HX h0;go_enter func206,ntmps206;go_wp2;go_ret;exact⟨Zah HK.out.symm,Yag _ _⟩
 · have hp :0<s.size:=by omega
   have he:=Zgu hp;have he2: ¬ s.toList= []:=by simpa using he
   by_cases h16:s.size≤16
   · have hg:Hid (s.data.toList.getD 0 0=s[0]):=by
      show _=_;rw[Yar,Yaj (by rw[HZ.out];exact hp)];rfl
     have HX1:Hid (nameB s.data.toList=(Zapf s[0]&&s.data.toList.all isNm)):=by
      show _=_;rw[HX.out,HZ.out,hg.out,Yal (p:=1≤s.size) (by omega),Yal h16];simp
     have HL:Hid (Zapf s[0]=(decide (97≤s[0].toNat)&&decide (s[0].toNat≤122))):=rfl;have h16':decide ((s.size:Int)≤16)=true:=Yal (by omega)
     by_cases h1:97≤s[0].toNat
     · by_cases h2:s[0].toNat≤122
       · have HX2:Hid (nameB s.data.toList=s.data.toList.all isNm):=by
          show _=_;rw[HX1.out,HL.out,Yal h1,Yal h2];rfl
         have HT:=Zhd (Zaip s ⟨#[97,98,99,100,101,102,103,104,105,106,107,108,109,110,111,112,113,114,115,116,117,118,119,120,121,122,48,49,50,51,52,53,54,55,56,57,45]⟩ w hs (by decide) (by decide))
         have HE:Hid ((⟨(Lib.trimS s.data.toList Zaeu).toArray⟩:ByteArray).toList.isEmpty=s.data.toList.all isNm):=by show _=_;rw[Zmm];exact Zbfl _
         have HT2:Hid (Calls prog 228 #[.string s, .string ⟨#[97,98,99,100,101,102,103,104,105,106,107,108,109,110,111,112,113,114,115,116,117,118,119,120,121,122,48,49,50,51,52,53,54,55,56,57,45]⟩] w fun e w'=>e= .returned (.string ⟨(Lib.trimS s.data.toList Zaeu).toArray⟩)∧Below w.heap.size w w'):=HT.out
         clear HX HX1 HL HT hg h0;generalize (⟨(Lib.trimS s.data.toList Zaeu).toArray⟩:ByteArray)=t at *;generalize s.data.toList.all isNm=b at *;go_enter func206,ntmps206;cases b with
         | true=>
           have ht:t.toList.isEmpty=true:=HE.out;have ht2:t.toList= []:=by simpa using ht
           go_wp2_with fail;refine HT2.out.mono ?_;rintro e w1 ⟨rfl,hb1⟩;go_wp2;go_ret;exact⟨Zah HX2.out.symm,hb1⟩
         | false=>
           have ht:t.toList.isEmpty=false:=HE.out;have ht2: ¬ t.toList= []:=by simpa using ht
           go_wp2_with fail;refine HT2.out.mono ?_;rintro e w1 ⟨rfl,hb1⟩;go_wp2;go_ret;exact⟨Zah HX2.out.symm,hb1⟩
       · have HK:Hid (nameB s.data.toList=false):=by show _=_;rw[HX1.out,HL.out,Yai h2];simp
         clear HX HX1 HL hg h0;go_enter func206,ntmps206;go_wp2;go_ret;exact⟨Zah HK.out.symm,Yag _ _⟩
     · have HK:Hid (nameB s.data.toList=false):=by show _=_;rw[HX1.out,HL.out,Yai h1];simp
       clear HX HX1 HL hg h0;go_enter func206,ntmps206;go_wp2;go_ret;exact⟨Zah HK.out.symm,Yag _ _⟩
   · have h16':decide ((s.size:Int)≤16)=false:=Yai (by omega)
     have HK:Hid (nameB s.data.toList=false):=by show _=_;rw[HX.out,HZ.out,Yai h16];simp
     clear HX h0;go_enter func206,ntmps206;go_wp2;go_ret;exact⟨Zah HK.out.symm,Yag _ _⟩
theorem Zazw (k s:ByteArray) (w:World) (hE:Env w) (hs:s.size≤100000000):
 Calls prog 173 #[.string k, .string s] w fun e w'=>e= .returned (.bool (Zga k s))∧Below w.heap.size w w':=by
 by_cases h0:k=Zgw
 · skip
   have q0:(k.toList== [36,110,97,109,101])=true:=(Zaz k [36,110,97,109,101]).trans (Yal h0);have p0:k.toList= [36,110,97,109,101]:=by simpa using q0
   have HK:Hid (Zga k s=(nameB s.data.toList)):=by show _=_;unfold Zga;rw[Yam h0]
   have HC:=Zhd (Zaxv s w hs);generalize nameB s.data.toList=b at *;clear h0 hE;go_enter func173,ntmps173;go_wp2_with fail;refine HC.out.mono ?_;rintro e w1 ⟨rfl,hb1⟩;clear HC;go_wp2;go_ret;exact⟨Zah HK.out.symm,hb1⟩
 by_cases h1:k=tIp
 · skip
   have q0:(k.toList== [36,110,97,109,101])=false:=(Zaz k [36,110,97,109,101]).trans (Yai h0);have p0: ¬ k.toList= [36,110,97,109,101]:=by simpa using q0
   have q1:(k.toList== [36,105,112])=true:=(Zaz k [36,105,112]).trans (Yal h1);have p1:k.toList= [36,105,112]:=by simpa using q1
   have HK:Hid (Zga k s=(decide (0≤ip s.data.toList))):=by show _=_;unfold Zga;rw[Yab h0,Yam h1]
   have HC:=Zhd (Zahe s w hE hs);unfold Znc at HC;generalize decide (0≤ip s.data.toList)=b at *;clear h0 h1 hE;go_enter func173,ntmps173;go_wp2_with fail;refine HC.out.mono ?_;rintro e w1 ⟨rfl,hb1⟩;clear HC;go_wp2;go_ret;exact⟨Zah HK.out.symm,hb1⟩
 by_cases h2:k=Zip
 · skip
   have q0:(k.toList== [36,110,97,109,101])=false:=(Zaz k [36,110,97,109,101]).trans (Yai h0);have p0: ¬ k.toList= [36,110,97,109,101]:=by simpa using q0
   have q1:(k.toList== [36,105,112])=false:=(Zaz k [36,105,112]).trans (Yai h1);have p1: ¬ k.toList= [36,105,112]:=by simpa using q1
   have q2:(k.toList== [36,112,114,101,102,105,120])=true:=(Zaz k [36,112,114,101,102,105,120]).trans (Yal h2);have p2:k.toList= [36,112,114,101,102,105,120]:=by simpa using q2
   have HK:Hid (Zga k s=(decide (0≤(pre s.data.toList).1))):=by show _=_;unfold Zga;rw[Yab h0,Yab h1,Yam h2]
   have HC:=Zhd (Zara s w hE hs);unfold Zkr at HC;generalize decide (0≤(pre s.data.toList).1)=b at *;clear h0 h1 h2 hE;go_enter func173,ntmps173;go_wp2_with fail;refine HC.out.mono ?_;rintro e w1 ⟨rfl,hb1⟩;clear HC;go_wp2;go_ret;exact⟨Zah HK.out.symm,hb1⟩
 by_cases h3:k=tMac
 · skip
   have q0:(k.toList== [36,110,97,109,101])=false:=(Zaz k [36,110,97,109,101]).trans (Yai h0);have p0: ¬ k.toList= [36,110,97,109,101]:=by simpa using q0
   have q1:(k.toList== [36,105,112])=false:=(Zaz k [36,105,112]).trans (Yai h1);have p1: ¬ k.toList= [36,105,112]:=by simpa using q1
   have q2:(k.toList== [36,112,114,101,102,105,120])=false:=(Zaz k [36,112,114,101,102,105,120]).trans (Yai h2);have p2: ¬ k.toList= [36,112,114,101,102,105,120]:=by simpa using q2
   have q3:(k.toList== [36,109,97,99])=true:=(Zaz k [36,109,97,99]).trans (Yal h3);have p3:k.toList= [36,109,97,99]:=by simpa using q3
   have HK:Hid (Zga k s=(decide (0≤mac s.data.toList))):=by show _=_;unfold Zga;rw[Yab h0,Yab h1,Yab h2,Yam h3]
   have HC:=Zhd (Zbcq s w hE hs);unfold Znc at HC;generalize decide (0≤mac s.data.toList)=b at *;clear h0 h1 h2 h3 hE;go_enter func173,ntmps173;go_wp2_with fail;refine HC.out.mono ?_;rintro e w1 ⟨rfl,hb1⟩;clear HC;go_wp2;go_ret;exact⟨Zah HK.out.symm,hb1⟩
 by_cases h4:k=tVni
 · skip
   have q0:(k.toList== [36,110,97,109,101])=false:=(Zaz k [36,110,97,109,101]).trans (Yai h0);have p0: ¬ k.toList= [36,110,97,109,101]:=by simpa using q0
   have q1:(k.toList== [36,105,112])=false:=(Zaz k [36,105,112]).trans (Yai h1);have p1: ¬ k.toList= [36,105,112]:=by simpa using q1
   have q2:(k.toList== [36,112,114,101,102,105,120])=false:=(Zaz k [36,112,114,101,102,105,120]).trans (Yai h2);have p2: ¬ k.toList= [36,112,114,101,102,105,120]:=by simpa using q2
   have q3:(k.toList== [36,109,97,99])=false:=(Zaz k [36,109,97,99]).trans (Yai h3);have p3: ¬ k.toList= [36,109,97,99]:=by simpa using q3
   have q4:(k.toList== [36,118,110,105])=true:=(Zaz k [36,118,110,105]).trans (Yal h4);have p4:k.toList= [36,118,110,105]:=by simpa using q4
   have HK:Hid (Zga k s=(numIn s.data.toList 1 16777215)):=by show _=_;unfold Zga;rw[Yab h0,Yab h1,Yab h2,Yab h3,Yam h4]
   have HC:=Zhd (Zqq s 1 16777215 w hE (by omega))
   unfold Zni at HC;generalize (if numIn s.data.toList 1 16777215=true then num s.data.toList else 0)=z at HC
   generalize numIn s.data.toList 1 16777215=b at *;clear h0 h1 h2 h3 h4 hE;go_enter func173,ntmps173;go_wp2_with fail;refine HC.out.mono ?_;rintro e w1 ⟨rfl,hb1⟩;clear HC;go_wp2;go_ret;exact⟨Zah HK.out.symm,hb1⟩
 by_cases h5:k=tNum
 · skip
   have q0:(k.toList== [36,110,97,109,101])=false:=(Zaz k [36,110,97,109,101]).trans (Yai h0);have p0: ¬ k.toList= [36,110,97,109,101]:=by simpa using q0
   have q1:(k.toList== [36,105,112])=false:=(Zaz k [36,105,112]).trans (Yai h1);have p1: ¬ k.toList= [36,105,112]:=by simpa using q1
   have q2:(k.toList== [36,112,114,101,102,105,120])=false:=(Zaz k [36,112,114,101,102,105,120]).trans (Yai h2);have p2: ¬ k.toList= [36,112,114,101,102,105,120]:=by simpa using q2
   have q3:(k.toList== [36,109,97,99])=false:=(Zaz k [36,109,97,99]).trans (Yai h3);have p3: ¬ k.toList= [36,109,97,99]:=by simpa using q3
   have q4:(k.toList== [36,118,110,105])=false:=(Zaz k [36,118,110,105]).trans (Yai h4);have p4: ¬ k.toList= [36,118,110,105]:=by simpa using q4
   have q5:(k.toList== [36,110,117,109])=true:=(Zaz k [36,110,117,109]).trans (Yal h5);have p5:k.toList= [36,110,117,109]:=by simpa using q5
   have HK:Hid (Zga k s=(numIn s.data.toList 1 1000)):=by show _=_;unfold Zga;rw[Yab h0,Yab h1,Yab h2,Yab h3,Yab h4,Yam h5]
   have HC:=Zhd (Zqq s 1 1000 w hE (by omega))
   unfold Zni at HC;generalize (if numIn s.data.toList 1 1000=true then num s.data.toList else 0)=z at HC
   generalize numIn s.data.toList 1 1000=b at *;clear h0 h1 h2 h3 h4 h5 hE;go_enter func173,ntmps173;go_wp2_with fail;refine HC.out.mono ?_;rintro e w1 ⟨rfl,hb1⟩;clear HC;go_wp2;go_ret;exact⟨Zah HK.out.symm,hb1⟩
 by_cases h6:k=Zafp
 · skip
   have q0:(k.toList== [36,110,97,109,101])=false:=(Zaz k [36,110,97,109,101]).trans (Yai h0);have p0: ¬ k.toList= [36,110,97,109,101]:=by simpa using q0
   have q1:(k.toList== [36,105,112])=false:=(Zaz k [36,105,112]).trans (Yai h1);have p1: ¬ k.toList= [36,105,112]:=by simpa using q1
   have q2:(k.toList== [36,112,114,101,102,105,120])=false:=(Zaz k [36,112,114,101,102,105,120]).trans (Yai h2);have p2: ¬ k.toList= [36,112,114,101,102,105,120]:=by simpa using q2
   have q3:(k.toList== [36,109,97,99])=false:=(Zaz k [36,109,97,99]).trans (Yai h3);have p3: ¬ k.toList= [36,109,97,99]:=by simpa using q3
   have q4:(k.toList== [36,118,110,105])=false:=(Zaz k [36,118,110,105]).trans (Yai h4);have p4: ¬ k.toList= [36,118,110,105]:=by simpa using q4
   have q5:(k.toList== [36,110,117,109])=false:=(Zaz k [36,110,117,109]).trans (Yai h5);have p5: ¬ k.toList= [36,110,117,109]:=by simpa using q5
   have q6:(k.toList== [36,109,101,116,114,105,99])=true:=(Zaz k [36,109,101,116,114,105,99]).trans (Yal h6);have p6:k.toList= [36,109,101,116,114,105,99]:=by simpa using q6
   have HK:Hid (Zga k s=(Zwo s.data.toList)):=by show _=_;unfold Zga;rw[Yab h0,Yab h1,Yab h2,Yab h3,Yab h4,Yab h5,Yam h6]
   have HC:=Zhd (Zayw s w hE hs);unfold Zade at HC;generalize Zwo s.data.toList=b at *;clear h0 h1 h2 h3 h4 h5 h6 hE;go_enter func173,ntmps173;go_wp2_with fail;refine HC.out.mono ?_;rintro e w1 ⟨⟨f,rfl⟩,hb1⟩;clear HC;go_wp2;go_ret;exact⟨Zah HK.out.symm,hb1⟩
 by_cases h7:k=Zafo
 · skip
   have q0:(k.toList== [36,110,97,109,101])=false:=(Zaz k [36,110,97,109,101]).trans (Yai h0);have p0: ¬ k.toList= [36,110,97,109,101]:=by simpa using q0
   have q1:(k.toList== [36,105,112])=false:=(Zaz k [36,105,112]).trans (Yai h1);have p1: ¬ k.toList= [36,105,112]:=by simpa using q1
   have q2:(k.toList== [36,112,114,101,102,105,120])=false:=(Zaz k [36,112,114,101,102,105,120]).trans (Yai h2);have p2: ¬ k.toList= [36,112,114,101,102,105,120]:=by simpa using q2
   have q3:(k.toList== [36,109,97,99])=false:=(Zaz k [36,109,97,99]).trans (Yai h3);have p3: ¬ k.toList= [36,109,97,99]:=by simpa using q3
   have q4:(k.toList== [36,118,110,105])=false:=(Zaz k [36,118,110,105]).trans (Yai h4);have p4: ¬ k.toList= [36,118,110,105]:=by simpa using q4
   have q5:(k.toList== [36,110,117,109])=false:=(Zaz k [36,110,117,109]).trans (Yai h5);have p5: ¬ k.toList= [36,110,117,109]:=by simpa using q5
   have q6:(k.toList== [36,109,101,116,114,105,99])=false:=(Zaz k [36,109,101,116,114,105,99]).trans (Yai h6);have p6: ¬ k.toList= [36,109,101,116,114,105,99]:=by simpa using q6
   have q7:(k.toList== [36,97,99,116,105,111,110])=true:=(Zaz k [36,97,99,116,105,111,110]).trans (Yal h7);have p7:k.toList= [36,97,99,116,105,111,110]:=by simpa using q7
   have HK:Hid (Zga k s=(decide (s=Zafu)||decide (s=Zbfq))):=by show _=_;unfold Zga;rw[Yab h0,Yab h1,Yab h2,Yab h3,Yab h4,Yab h5,Yab h6,Yam h7]
   clear h0 h1 h2 h3 h4 h5 h6 h7 hE;by_cases g1:s=Zafu
   · have y1:(s.toList== [112,101,114,109,105,116])=true:=(Zaz s [112,101,114,109,105,116]).trans (Yal g1);have z1:s.toList= [112,101,114,109,105,116]:=by simpa using y1
     have HK2:Hid (Zga k s=true):=by show _=_;rw[HK.out,Yal g1];rfl
     clear g1 HK;go_enter func173,ntmps173;go_wp2;go_ret;exact⟨Zah HK2.out.symm,Yag _ _⟩
   · have y1:(s.toList== [112,101,114,109,105,116])=false:=(Zaz s [112,101,114,109,105,116]).trans (Yai g1);have z1: ¬ s.toList= [112,101,114,109,105,116]:=by simpa using y1
     by_cases g2:s=Zbfq
     · have y2:(s.toList== [100,101,110,121])=true:=(Zaz s [100,101,110,121]).trans (Yal g2);have z2:s.toList= [100,101,110,121]:=by simpa using y2
       have HK2:Hid (Zga k s=true):=by show _=_;rw[HK.out,Yal g2];simp
       clear g1 g2 HK;go_enter func173,ntmps173;go_wp2;go_ret;exact⟨Zah HK2.out.symm,Yag _ _⟩
     · have y2:(s.toList== [100,101,110,121])=false:=(Zaz s [100,101,110,121]).trans (Yai g2);have z2: ¬ s.toList= [100,101,110,121]:=by simpa using y2
       have HK2:Hid (Zga k s=false):=by show _=_;rw[HK.out,Yai g1,Yai g2];rfl
       clear g1 g2 HK;go_enter func173,ntmps173;go_wp2;go_ret;exact⟨Zah HK2.out.symm,Yag _ _⟩
 have q0:(k.toList== [36,110,97,109,101])=false:=(Zaz k [36,110,97,109,101]).trans (Yai h0);have p0: ¬ k.toList= [36,110,97,109,101]:=by simpa using q0
 have q1:(k.toList== [36,105,112])=false:=(Zaz k [36,105,112]).trans (Yai h1);have p1: ¬ k.toList= [36,105,112]:=by simpa using q1
 have q2:(k.toList== [36,112,114,101,102,105,120])=false:=(Zaz k [36,112,114,101,102,105,120]).trans (Yai h2);have p2: ¬ k.toList= [36,112,114,101,102,105,120]:=by simpa using q2
 have q3:(k.toList== [36,109,97,99])=false:=(Zaz k [36,109,97,99]).trans (Yai h3);have p3: ¬ k.toList= [36,109,97,99]:=by simpa using q3
 have q4:(k.toList== [36,118,110,105])=false:=(Zaz k [36,118,110,105]).trans (Yai h4);have p4: ¬ k.toList= [36,118,110,105]:=by simpa using q4
 have q5:(k.toList== [36,110,117,109])=false:=(Zaz k [36,110,117,109]).trans (Yai h5);have p5: ¬ k.toList= [36,110,117,109]:=by simpa using q5
 have q6:(k.toList== [36,109,101,116,114,105,99])=false:=(Zaz k [36,109,101,116,114,105,99]).trans (Yai h6);have p6: ¬ k.toList= [36,109,101,116,114,105,99]:=by simpa using q6
 have q7:(k.toList== [36,97,99,116,105,111,110])=false:=(Zaz k [36,97,99,116,105,111,110]).trans (Yai h7);have p7: ¬ k.toList= [36,97,99,116,105,111,110]:=by simpa using q7
 have HK:Hid (Zga k s=false):=by show _=_;unfold Zga;rw[Yab h0,Yab h1,Yab h2,Yab h3,Yab h4,Yab h5,Yab h6,Yab h7]
 clear h0 h1 h2 h3 h4 h5 h6 h7;go_enter func173,ntmps173;go_wp2;go_ret;exact⟨Zah HK.out.symm,Yag _ _⟩
open Tre
def Pv (w:World) (v:Value) (P:List ByteArray):Prop:=
 ∃ b c,v= .slice (some ⟨b,0,none⟩) P.length c∧P.length≤c∧c≤maxLen∧0<P.length∧Rd w 1 (some ⟨b,0,none⟩) P.length (sv P)
theorem Pv.below {w w':World} {v:Value} {P:List ByteArray} (h:Pv w v P) (hb:Below w.heap.size w w'):Pv w' v P:=by
 obtain⟨b,c,h1,h2,h3,h4,h5⟩:=h;exact⟨b,c,h1,h2,h3,h4,h5.below hb⟩
theorem Pv.head {w:World} {v:Value} {P:List ByteArray} (h:Pv w v P): ∃ b c s,v= .slice (some ⟨b,0,none⟩) P.length c∧b<w.heap.size∧w.cell? ⟨b,0,none⟩=some (.string s):=by
 obtain⟨b,c,h1,-,-,h4,h5⟩:=h;obtain⟨ad,e,hb,hx⟩:=h5.2 h4;injection e with e
 subst e;have:=hx 0 _ (Zks h4);rw[Zag]at this;exact⟨b,c,P[0],h1,hb,this⟩
theorem Pv.slice {w:World} {v:Value} {P:List ByteArray} (h:Pv w v P): ∃ b c,v= .slice (some ⟨b,0,none⟩) P.length c∧P.length≤c∧c≤maxLen∧0<P.length∧b<w.heap.size∧Pv w (.slice (some ⟨b,0,none⟩) P.length c) P∧Rd w 1 (some ⟨b,0,none⟩) P.length (sv P):=by
 obtain⟨b',c',s,h1,hb,-⟩:=h.head;obtain⟨b,c,rfl,h2,h3,h4,h5⟩:=h;injection h1 with e
 injection e with e
 injection e with e
 subst e;exact⟨b,c,rfl,h2,h3,h4,hb,⟨b,c,rfl,h2,h3,h4,h5⟩,h5⟩
theorem Pv.rd {w:World} {b c:Nat} {P:List ByteArray} (h:Pv w (.slice (some ⟨b,0,none⟩) P.length c) P):Rd w 1 (some ⟨b,0,none⟩) P.length (sv P)∧P.length≤c∧c≤maxLen∧0<P.length∧b<w.heap.size:=by
 obtain⟨b',c',e,h1,h2,h3,h4,-,h5⟩:=h.slice;injection e with e1 _ e2
 injection e1 with e1
 injection e1 with e1
 subst e1 e2;exact⟨h5,h1,h2,h3,h4⟩
theorem Pv.one {w:World} {v:Value} {P:List ByteArray} (h:Pv w v P):v.oneCell'=true:=by
 obtain⟨b,c,rfl,-⟩:=h;rfl
theorem Pv.kept {w w':World} {v:Value} {P:List ByteArray} {row:Option Nat} (h:Pv w v P) (hg:w.grownBy w' row) (hne: ∀ b c,v= .slice (some ⟨b,0,none⟩) P.length c→some b≠row):Pv w' v P:=by
 obtain⟨b,c,h1,h2,h3,h4,h5⟩:=h;refine⟨b,c,h1,h2,h3,h4,h5.1,fun hn=> ?_⟩
 obtain⟨ad,e,hb,hx⟩:=h5.2 hn;injection e with e
 subst e;refine⟨_,rfl,Ycc hb hg.size,fun j u hu=> ?_⟩
 exact hg.cell (hx j u hu) (by rw[Zhc];exact hne b c h1)
abbrev Item:=List ByteArray×List Value
def Zeh:List Value→List Item→List Value
 |v::vs,x::xs=>v::x.2++Zeh vs xs
 |_,_=> []
theorem Zgs: ∀ {vs us:List Value} {xs ys:List Item},vs.length=xs.length→Zeh (vs++us) (xs++ys)=Zeh vs xs++Zeh us ys
 | [],_,[],_,_=>rfl
 | v::vs,us,x::xs,ys,h=>by
   simp only[Ycn,Zeh];rw[Zgs (by simpa using h),Ybc]
 | [],_,_::_,_,h=>by cases h
 |_::_,_,[],_,h=>by cases h
theorem Zwc (v:Value) (x:Item):Zeh [v] [x]=v::x.2:=by simp[Zeh]
theorem Zqj {k:Nat}: ∀ {vs:List Value} {xs:List Item} (_:vs.length=xs.length) (_: ∀ x∈xs,x.2.length+1=k) (i:Nat) (hi:i<xs.length) (hv:i<vs.length) (j:Nat) (_:j<k),(Zeh vs xs)[i*k+j]?=(vs[i]::xs[i].2)[j]?
 | [],[],_,_,i,hi,_,_,_=>absurd hi (by simp)
 | v ::vs,x::xs,h,hk,i,hi,hv,j,hj=>by
   have h1:=hk x (by simp)
   cases i with
   | zero=>
     simp only[Zeh,Yew];rw[Ych (by simp;omega)];simp
   | succ i=>
     simp only[Zeh,List.getElem_cons_succ];rw[Ybm (by simp[Nat.add_mul];omega)]
     rw[←Zqj (vs:=vs) (xs:=xs) (by simpa using h) (fun y hy=>hk y (by simp[hy])) i (by simpa using hi) (by simpa using hv) j hj]
     congr 1;simp[Nat.add_mul];omega
 | [],_::_,h,_,_,_,_,_,_=>by cases h
 |_::_,[],h,_,_,_,_,_,_=>by cases h
theorem Zaeb {vs:List Value} {xs:List Item} (h1: ∀ v∈vs,v.oneCell'=true) (h2: ∀ x∈xs,∀ u∈x.2,u.oneCell'=true): ∀ u∈Zeh vs xs,u.oneCell'=true:=by
 induction vs generalizing xs with
 |nil=>intro u hu;simp[Zeh]at hu
 | cons v vs ih=>
   cases xs with
   |nil=>intro u hu;simp[Zeh]at hu
   | cons x xs=>
     intro u hu;simp only[Zeh,Ycn,Yav,Ybn]at hu;rcases hu with rfl|hu|hu
     · exact h1 _ (by simp)
     · exact h2 x (by simp) u hu
     · exact ih (fun v hv=>h1 v (by simp[hv])) (fun y hy=>h2 y (by simp[hy])) u hu
def Pvs (w:World) (vs:List Value) (xs:List Item):Prop:=vs.length=xs.length∧ ∀ (i:Nat) (h:i<xs.length) (hv:i<vs.length),Pv w vs[i] xs[i].1
theorem Pvs.below {w w':World} {vs:List Value} {xs:List Item} (h:Pvs w vs xs) (hb:Below w.heap.size w w'):Pvs w' vs xs:=⟨h.1,fun i hi hv=>(h.2 i hi hv).below hb⟩
theorem Pvs.append {w:World} {vs us:List Value} {xs ys:List Item} (h:Pvs w vs xs) (k:Pvs w us ys):Pvs w (vs++us) (xs++ys):=by
 refine⟨by rw[Yae,Yae,h.1,k.1],fun i hi hv=> ?_⟩
 by_cases hlt:i<xs.length
 · rw[Ydq hlt,Ydq (by rw[h.1];exact hlt)]
   exact h.2 i hlt _
 · have hlv:vs.length=xs.length:=h.1;have hi2:i-xs.length<ys.length:=by rw[Yae]at hi;omega
   have e1:(xs++ys)[i]=ys[i-xs.length]:=Yep (by omega)
   have e2:(vs++us)[i]=us[i-vs.length]'(by rw[k.1];omega):=Yep (by omega)
   rw[e1,e2];have:=k.2 (i-xs.length) hi2 (by rw[k.1];exact hi2)
   simpa only[h.1]using this
theorem Pvs.one {w:World} {vs:List Value} {xs:List Item} (h:Pvs w vs xs): ∀ v∈vs,v.oneCell'=true:=by
 intro v hv;obtain⟨i,hi,rfl⟩:=Ybs hv;exact(h.2 i (by rw[←h.1];exact hi) hi).one
theorem Pvs.nil {w:World}:Pvs w [] []:=⟨rfl,fun i h=>absurd h (by simp)⟩
theorem Pvs.single {w:World} {v:Value} {x:Item} (h:Pv w v x.1):Pvs w [v] [x]:=by
 refine⟨rfl,fun i hi _=> ?_⟩
 obtain rfl:i=0:=by simpa using hi
 exact h
def Pd (w:World) (k:Nat) (A:Option Addr) (xs:List Item):Prop:=(∀ x∈xs,x.2.length+1=k)∧ ∃ vs,Pvs w vs xs∧Rd w k A xs.length (Zeh vs xs)
theorem Pd.below {w w':World} {k:Nat} {A:Option Addr} {xs:List Item} (h:Pd w k A xs) (hb:Below w.heap.size w w'):Pd w' k A xs:=by
 obtain⟨h1,vs,h2,h3⟩:=h;exact⟨h1,vs,h2.below hb,h3.below hb⟩
def Pl (w:World) (base:Nat) (T:TypeId) (k:Nat) (v:Value) (xs:List Item):Prop:=
 (∀ x∈xs,x.2.length+1=k)∧(xs= []→v= .slice none 0 0)∧ ∃ vs,Pvs w vs xs∧w.ownsRow base T k v xs.length (Zeh vs xs)
theorem Pl.nil (w:World) (base:Nat) (T:TypeId) (k:Nat):Pl w base T k (.slice none 0 0) []:=⟨by simp,fun _=>rfl,[],Pvs.nil,World.ownsRow_nil _ _ _ _⟩
theorem Pl.below {w w':World} {base:Nat} {T:TypeId} {k:Nat} {v:Value} {xs:List Item} (h:Pl w base T k v xs) (hb:Below w.heap.size w w'):Pl w' base T k v xs:=by
 obtain⟨h1,h2,vs,h3,h4⟩:=h;exact⟨h1,h2,vs,h3.below hb,Zai h4 hb⟩
theorem Pl.base {w:World} {base b2:Nat} {T:TypeId} {k:Nat} {v:Value} {xs:List Item} (h:Pl w base T k v xs) (hb:b2≤base):Pl w b2 T k v xs:=by
 obtain⟨h1,h2,vs,h3,h4⟩:=h;exact⟨h1,h2,vs,h3,Zkc h4 hb⟩
theorem Pl.read {w:World} {base:Nat} {T:TypeId} {k:Nat} {v:Value} {xs:List Item} (h:Pl w base T k v xs): ∃ A c,v= .slice A xs.length c∧xs.length≤c∧c≤maxLen∧Pd w k A xs∧(A=none→c=0):=by
 obtain⟨h1,h2,vs,h3,h4⟩:=h;obtain⟨A,c,e,a,b,r,n,-⟩:=Zcr h4;exact⟨A,c,e,a,b,⟨h1,vs,h3,r⟩,n⟩
theorem Zjc {w:World} {base:Nat} {T:TypeId} {k:Nat} {v:Value} {xs:List Item} (h:Pl w base T k v xs) (_hk:0<k) {u:Value} {P:List ByteArray} (hp:Pv w u P): ∀ b c,u= .slice (some ⟨b,0,none⟩) P.length c→some b≠v.ownBlock:=by
 intro b c hu e;obtain⟨h1,h2,vs,h3,h4⟩:=h;obtain⟨b',c',s,hu',hb,hs⟩:=hp.head;rw[hu]at hu';injection hu' with hA
 injection hA with hA
 injection hA with hA
 subst hA;rcases xs with _|⟨x,xs⟩
 · rw[h2 rfl]at e;cases e
 · cases vs with
   |nil=>exact absurd h3.1 (by simp)
   | cons v0 vs=>
     have hx:(Zeh (v0::vs) (x::xs))[0]?=some v0:=by simp[Zeh]
     have hc:=h4.cells e.symm 0 v0 hx;rw[Zag,hs]at hc;obtain⟨b2,c2,h5,-⟩:=h3.2 0 (by simp) (by simp)
     simp only[Yew]at h5;rw[h5]at hc;cases hc
theorem Zoh {P:Program} {ops:Array Oper} {rest:List Oper} {o:Oper} {a:Act} {Q:Exit→Act→World→Prop} (hgd:o.guard=none) (s x:Operand) (t:TypeId)
 (ho:o.op= .call {callee:= .builtin .append,args:= #[s,x],argTypes:= #[t,t]})
 (w0 wr:World) (e:TypeId) (i:TypeInfo) (z:Value) (k bytes:Nat) (ht:P.underlying t=some (.slice e)) (hi:P.info? e=some i) (hz:i.zero=some z)
 (hsize:i.size=k) (hby:i.bytes=bytes) (hzs:z.cells.size=k) (hsz:0<k) (hb64:bytes≤64)
 {v:Value} {xs:List Item} (hown:Pl wr w0.heap.size e k v xs) (hb:Below w0.heap.size w0 wr) (hs:a.eval s=v)
 (u:Value) (y:Item) (hy:y.2.length+1=k) (hy1: ∀ c∈y.2,c.oneCell'=true) (hu:Pv wr u y.1) (hx:a.eval x= .slice (some ⟨wr.heap.size,0,none⟩) 1 1) (hN:xs.length+1≤1000000000)
 (h: ∀ v' w',Pl w' w0.heap.size e k v' (xs++ [y])→Below w0.heap.size w0 w'→wpList P ops Q rest (a.put o.dst v') w'):
 wpList P ops Q (o::rest) a (wr.alloc (.cells (u::y.2).toArray e)):=by
 have hbytes:(xs.length+1)*bytes≤140737488355328:=Yat (Ydj hN hb64) (by decide)
 have hba:Below wr.heap.size wr (wr.alloc (.cells (u::y.2).toArray e)):=(Yag _ _).alloc (Yaf _) _;have hP:=hown.below hba;obtain⟨-,-,vs,h3,h4⟩:=hP;refine wpList_append_own _ hgd s x t ho w0.heap.size e i z k bytes ht hi hz hsize hby hzs hsz v xs.length (Zeh vs xs) hs h4 ⟨wr.heap.size,0,none⟩ 1 1 (u::y.2) hx (by simp;omega) ?_ ?_ (by unfold maxLen;omega) hbytes (Yat hb.size (by simp)) ?_
 · intro j c hc;rw[Zag,Ybi,World.cell?_alloc_at _ _ _ _ rfl];simpa using hc
 · intro c hc;rcases Yav.1 hc with rfl|hc
   · exact hu.one
   · exact hy1 c hc
 · intro v' w' hown' hg hnil;refine h v' w' ?_ ((hb.alloc hb.size _).grown hg (Yat hb.size (by simp)) fun q hq=>(h4.lt q hq).1)
   have hP:=hown.below hba;refine⟨fun c hc=> ?_,fun e=>by simp at e,vs++ [u], ?_, ?_⟩
   · rcases Ybn.1 hc with hc|hc
     · exact hown.1 c hc
     · rw[Ybu.1 hc];exact hy
   · have e1:Pvs w' vs xs:=⟨h3.1,fun i hi hv=>(h3.2 i hi hv).kept hg (Zjc hP hsz (h3.2 i hi hv))⟩
     exact e1.append (Pvs.single ((hu.below hba).kept hg (Zjc hP hsz (hu.below hba))))
   · rw[Zgs h3.1,Zwc,Yae];exact hown'
theorem Zamt {P:Program} {ops:Array Oper} {rest:List Oper} {o:Oper} {a:Act} {Q:Exit→Act→World→Prop} (hgd:o.guard=none) (s x:Operand) (t:TypeId)
 (ho:o.op= .call {callee:= .builtin .append,args:= #[s,x],argTypes:= #[t,t]})
 (w0 wr:World) (e:TypeId) (i:TypeInfo) (z:Value) (k bytes:Nat) (ht:P.underlying t=some (.slice e)) (hi:P.info? e=some i) (hz:i.zero=some z)
 (hsize:i.size=k) (hby:i.bytes=bytes) (hzs:z.cells.size=k) (hsz:0<k) (hb64:bytes≤64)
 {v:Value} {xs:List Item} (hown:Pl wr w0.heap.size e k v xs) (hb:Below w0.heap.size w0 wr) (hs:a.eval s=v)
 (A:Option Addr) (c:Nat) (ys:List Item) (hx:a.eval x= .slice A ys.length c) (hR:Pd wr k A ys) (hnil:A=none→c=0) (h1: ∀ y∈ys,∀ u∈y.2,u.oneCell'=true)
 (hN:xs.length+ys.length≤1000000000)
 (h: ∀ v' w',Pl w' w0.heap.size e k v' (xs++ys)→Below w0.heap.size w0 w'→wpList P ops Q rest (a.put o.dst v') w'):
 wpList P ops Q (o::rest) a wr:=by
 have hbytes:(xs.length+ys.length)*bytes≤140737488355328:=Yat (Ydj hN hb64) (by decide)
 obtain⟨hk,us,hu,hr⟩:=hR;have hown0:=hown;obtain⟨hx1,hx2,vs,h3,h4⟩:=hown;rcases A with _|ad
 · have hm:ys.length=0:=by
    rcases Ybj ys.length with h0|h0
    · exact h0
    · obtain⟨ad,h,-⟩:=hr.2 h0;cases h
   have hy0:ys= []:=Yap hm;subst hy0;obtain rfl:=hnil rfl;exact wpList_append_own_none hgd s x t ho w0.heap.size e i k ht hi v xs.length (Zeh vs xs) hs h4 hx (h v wr (by simpa using hown0) hb)
 · refine wpList_append_own _ hgd s x t ho w0.heap.size e i z k bytes ht hi hz hsize hby hzs hsz v xs.length (Zeh vs xs) hs h4 ad ys.length c (Zeh us ys) hx hr.1 ?_ (Zaeb hu.one h1) (by unfold maxLen;omega) hbytes hb.size ?_
   · intro j u hu;obtain⟨ad',e',-,hc⟩:=hr.cell hu;injection e' with e'
     subst e';exact hc
   · intro v' w' hown' hg hn;refine h v' w' ?_ (hb.grown hg hb.size fun q hq=>(h4.lt q hq).1)
     refine⟨fun x hx=> ?_,fun e=> ?_,vs++us, ?_, ?_⟩
     · rcases Ybn.1 hx with hx|hx
       · exact hx1 x hx
       · exact hk x hx
     · obtain⟨rfl,rfl⟩:=Yey.1 e;exact hn.2 ⟨hx2 rfl,rfl⟩
     · have e1:Pvs w' vs xs:=⟨h3.1,fun i hi hv=>(h3.2 i hi hv).kept hg (Zjc hown0 hsz (h3.2 i hi hv))⟩
       have e2:Pvs w' us ys:=⟨hu.1,fun i hi hv=>(hu.2 i hi hv).kept hg (Zjc hown0 hsz (hu.2 i hi hv))⟩
       exact e1.append e2
     · rw[Zgs h3.1,Yae];exact hown'
theorem Pd.at {w:World} {k:Nat} {A:Option Addr} {xs:List Item} (h:Pd w k A xs) {i:Nat} (hi:i<xs.length):
 ∃ B O v,A=some ⟨B,O,none⟩∧B<w.heap.size∧(⟨B,O,none⟩:Addr).add (i*k)=⟨B,O+i*k,none⟩∧Pv w v xs[i].1∧w.cell? ⟨B,O+i*k,none⟩=some v∧ ∀ j u,xs[i].2[j]?=some u→w.cell? ⟨B,O+i*k+(j+1),none⟩=some u:=by
 obtain⟨hk,vs,hv,hr⟩:=h;obtain⟨ad,e,hb,hx⟩:=hr.2 (by omega)
 have hkk:=hk xs[i] (Yaw hi);have hiv:i<vs.length:=by rw[hv.1];exact hi
 have g:=Zqj hv.1 hk i hi hiv;have h0:=hx (i*k+0) vs[i] (by rw[g 0 (by omega)];rfl)
 have hs:ad.spot=none:=by
  have:=hx 0 _ (by
   have:=Zqj hv.1 hk 0 (by omega) (by omega) 0 (by have:=hk xs[0] (Yaw _);omega)
   rw[Nat.zero_mul,Ybi]at this;rw[this];rfl)
  exact World.cell?_spot this
 obtain⟨B,O,sp⟩:=ad;obtain rfl:sp=none:=hs;rw[Zag]at h0;refine⟨B,O,vs[i],e,hb,Zag _ _ _,hv.2 i hi hiv,h0,fun j u hu=> ?_⟩
 have hj:j<xs[i].2.length:=(Ybb.1 hu).1;have:=hx (i*k+(j+1)) u (by rw[g (j+1) (by omega)];exact hu)
 rw[Zag,←Ydn]at this;exact this
end Go.Proofs.Zq
