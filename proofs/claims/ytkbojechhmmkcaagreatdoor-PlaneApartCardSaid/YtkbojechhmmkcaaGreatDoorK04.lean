import Derived.WalkMore
import Derived.Test.YtkbojechhmmkcaaGreatDoorK03
set_option linter.unusedVariables false
set_option linter.unusedSimpArgs false
set_option maxHeartbeats 4000000
set_option maxRecDepth 100000
namespace Lx
open Go Go.Lib
theorem Zban (x:UInt8): -1≤indexByte hexL x∧indexByte hexL x<16:=by
 have: ∀ n:Fin 256,-1≤indexByte hexL (UInt8.ofNat n)∧indexByte hexL (UInt8.ofNat n)<16:=by decide+kernel
 have h:=this ⟨x.toNat,x.toNat_lt⟩;simpa using h
def Zkq (d:UInt8) (r:List UInt8):UInt8×Nat:=
 if d=34∨d=92 then(d,2)
 else if d≠120 then(0,0)
 else match r with
  |x::y::_=>if indexByte hexL x<0∨indexByte hexL y<0 then(0,0)else(UInt8.ofNat ((indexByte hexL x).toNat *16+(indexByte hexL y).toNat),4)
  |_=>(0,0)
theorem Zjh (c:UInt8) (l:List UInt8):Zcm (c::l)=if c=34∨c.toNat<32∨126<c.toNat then(0,0)else if c≠92 then(c,1)else match l with| []=>(0,0)|d::r=>Zkq d r:=rfl
theorem Zaqv (d:UInt8) (r:List UInt8):(Zkq d r).2≤r.length+2:=by
 unfold Zkq;by_cases h1:d=34∨d=92
 · rw[Yam h1];simp
 · rw [Yab h1];by_cases h2:d≠120
   · rw[Yam h2];simp
   · rw[Yab h2];rcases r with _|⟨x,_|⟨y,r⟩⟩
     · simp
     · simp
     · simp only;split
       · simp
       · simp
theorem Zayp (c:UInt8) (l:List UInt8):(Zcm (c::l)).2≤(c::l).length:=by
 rw[Zjh];by_cases h1:c=34∨c.toNat<32∨126<c.toNat
 · rw[Yam h1];simp
 · rw[Yab h1];by_cases h2:c≠92
   · rw[Yam h2];simp
   · rw[Yab h2];cases l with
     |nil=>simp
     |cons d r=>have:=Zaqv d r;simp only[Ybd];omega
theorem Znz (c:UInt8) (l:List UInt8) (h:c.toNat=34∨c.toNat<32∨126<c.toNat):Zcm (c::l)=(0,0):=by
 rw[Zjh,Yam];rcases h with h|h|h
 · exact .inl (Ybx.1 h)
 · exact .inr (.inl h)
 · exact .inr (.inr h)
theorem Zaez (c:UInt8) (l:List UInt8) (h1:c.toNat≠34) (h2: ¬ c.toNat<32) (h3: ¬ 126<c.toNat) (h4:c.toNat≠92):Zcm (c::l)=(c,1):=by
 rw[Zjh,Yab (fun h=> ?_),Yam (fun h=>h4 (by rw[h];rfl))]
 rcases h with h|h|h
 · exact h1 (by rw[h];rfl)
 · exact h2 h
 · exact h3 h
theorem Zma (d:UInt8) (r:List UInt8):Zcm (92::d::r)=Zkq d r:=by
 rw[Zjh,Yab (by decide),Yab (by decide)]
theorem Zaqx:Zcm [92]=(0,0):=by
 rw[Zjh,Yab (by decide),Yab (by decide)]
theorem Zarf {d:UInt8} (r:List UInt8) (h:d=34∨d=92):Zkq d r=(d,2):=by unfold Zkq;rw[Yam h]
theorem Zbdj {d:UInt8} (r:List UInt8) (h: ¬ (d=34∨d=92)) (hx:d≠120):Zkq d r=(0,0):=by unfold Zkq;rw[Yab h,Yam hx]
theorem Zayv {r:List UInt8} (h:r.length<2):Zkq 120 r=(0,0):=by
 unfold Zkq;rw[Yab (by decide),Yab (by decide)]
 rcases r with _|⟨x,_|⟨y,r⟩⟩
 · rfl
 · rfl
 · simp at h;omega
theorem Zbgy (x y:UInt8) (r:List UInt8):Zkq 120 (x::y::r)=if indexByte hexL x<0∨indexByte hexL y<0 then(0,0)else(UInt8.ofNat ((indexByte hexL x).toNat *16+(indexByte hexL y).toNat),4):=by
 unfold Zkq;rw[Yab (by decide),Yab (by decide)]
def Zapc (r:Option (List UInt8)):Value:=match r with|none=> .tuple #[.string ⟨#[]⟩, .bool false]|some l=> .tuple #[.string ⟨l.toArray⟩, .bool true]
theorem Zqk (f:Nat) (c:UInt8) (l:List UInt8):Zew (f+1) (c::l)=if(Zcm (c::l)).2=0 then none else(Zew f ((c::l).drop (Zcm (c::l)).2)).map ((Zcm (c::l)).1:: ·):=rfl
theorem Zll (f:Nat):Zew f []=some []:=by cases f<;>rfl
end Lx
namespace Go.Proofs.Zq
open Tryz
open Go Go.RowKit Go.Sort Lx
theorem Zqo {s:ByteArray} {k:Nat} (h:k<s.size): ∃ r,s.data.toList.drop k=s[k]::r∧r=s.data.toList.drop (k+1):=⟨_,drop_at h,rfl⟩
theorem Zbgm {a b:Int} (ha:0≤a) (ha2:a<16) (hb:0≤b) (hb2:b<16):bits .or .i64 (a*16) b%256=((UInt8.ofNat (a.toNat *16+b.toNat)).toNat:Int):=by
 obtain⟨n,rfl⟩:=Yci ha;obtain⟨m,rfl⟩:=Yci hb;have: ∀ x y:Fin 16,bits .or .i64 ((x.val:Int)*16) (y.val:Int)%256=((UInt8.ofNat (x.val*16+y.val)).toNat:Int):=by decide+kernel
 exact this ⟨n,by omega⟩ ⟨m,by omega⟩
def Zaqu (r:UInt8×Nat):Value:= .tuple #[.int .u8 (r.1.toNat:Int), .int .i64 (r.2:Int)]
theorem Znh {n k:Nat} (h:n=k):((n:Int)==(k:Int))=true:=by rw[h];exact beq_self_eq_true _
theorem Zkp {n k:Nat} (h:n≠k):((n:Int)==(k:Int))=false:=by rw[Yak];omega
theorem Zaqw (s : ByteArray) (w:World) (hs:s.size≤1000000000) (h0:0<s.size):
 Calls prog 217 #[.string s] w fun e w'=>e= .returned (Zaqu (Zcm s.data.toList))∧Below w.heap.size w w':=by
 obtain⟨l,hl,hl1⟩:=Zqo h0;rw[Yeu]at hl;have hc256:(s[0].toNat:Int)<256:=by have:=s[0].toNat_lt;omega
 by_cases h1:s[0].toNat=34
 · have HX:Hid (Zcm s.data.toList=(0,0)):=by show _=_;rw[hl];exact Znz _ _ (.inl h1)
   have g1:((s[0].toNat:Int)==34)=true:=Znh h1;clear hl hl1 h1;go_enter func217,ntmps217;go_wp2;go_ret2;exact⟨by rw[HX.out];rfl,Yag _ _⟩
 · have g1 : ((s[0].toNat:Int)==34)=false:=Zkp h1;by_cases h2:s[0].toNat<32
   · have HX:Hid (Zcm s.data.toList=(0,0)):=by show _=_;rw[hl];exact Znz _ _ (.inr (.inl h2))
     have g2:(s[0].toNat:Int)<32:=by omega
     clear hl hl1 h1 h2;go_enter func217,ntmps217;go_wp2;go_ret2;exact⟨by rw[HX.out];rfl,Yag _ _⟩
   · have g2 : ¬ (s[0].toNat:Int)<32:=by omega
     by_cases h3:126<s[0].toNat
     · have HX:Hid (Zcm s.data.toList=(0,0)):=by show _=_;rw[hl];exact Znz _ _ (.inr (.inr h3))
       have g3:126<(s[0].toNat:Int):=by omega
       clear hl hl1 h1 h2 h3;go_enter func217,ntmps217;go_wp2;go_ret2;exact⟨by rw[HX.out];rfl,Yag _ _⟩
     · have g3 : ¬ 126 <(s[0].toNat:Int):=by omega
       by_cases h4:s[0].toNat=92
       · have g4 : ((s[0].toNat:Int)!=92)=false:=by rw[bne_eq_false_iff_eq];omega
         have hce:s[0]=92:=Ybx.1 h4;rw[hce]at hl;clear hce h1 h2 h3 h4;by_cases h5:s.size<2
         · have HX:Hid (Zcm s.data.toList=(0,0)):=by
            show _=_;have e:l= []:=by rw[hl1];exact Ybe (by rw[Zak];omega)
            rw[hl,e,Zaqx]
           have g5:(s.size:Int)<2:=by omega
           clear hl hl1 h5;go_enter func217,ntmps217;go_wp2;go_ret2;exact⟨by rw[HX.out];rfl,Yag _ _⟩
         · have g5 : ¬ (s.size:Int)<2:=by omega
           have hb1:1<s.size:=by omega
           obtain⟨r,hr,hr1⟩:=Zqo hb1;rw[←hl1]at hr;rw[hr]at hl;have hd256:(s[1].toNat:Int)<256:=by have:=s[1].toNat_lt;omega
           clear hl1 hr;by_cases h6:s[1].toNat=34
           · have HX:Hid (Zcm s.data.toList=(s[1],2)):=by show _=_;rw[hl,Zma];exact Zarf r (.inl (Ybx.1 h6))
             have g6:((s[1].toNat:Int)==34)=true:=Znh h6;clear hl hr1 h5 h6;go_enter func217,ntmps217;go_wp2;go_ret2;exact⟨by rw[HX.out];rfl,Yag _ _⟩
           · have g6 : ((s[1].toNat:Int)==34)=false:=Zkp h6;by_cases h7:s[1].toNat=92
             · have HX:Hid (Zcm s.data.toList=(s[1],2)):=by show _=_;rw[hl,Zma];exact Zarf r (.inr (Ybx.1 h7))
               have g7:((s[1].toNat:Int)==92)=true:=Znh h7;clear hl hr1 h5 h6 h7;go_enter func217,ntmps217;go_wp2;go_ret2;exact⟨by rw[HX.out];rfl,Yag _ _⟩
             · have g7 :((s[1].toNat:Int)==92)=false:=Zkp h7
               have hno: ¬ (s[1]=34∨s[1]=92):=by
                rintro(h|h)
                · exact h6 (by rw[h];rfl)
                · exact h7 (by rw[h];rfl)
               by_cases h8:s[1].toNat=120
               · have g8:((s[1].toNat:Int)!=120)=false:=by rw[bne_eq_false_iff_eq];omega
                 have hx:s[1]=120:=Ybx.1 h8;rw[hx]at hl;by_cases h9:s.size<4
                 · have HX:Hid (Zcm s.data.toList=(0,0)):=by
                    show _=_;rw[hl,Zma];exact Zayv (by rw[hr1,Yan,Zak];omega)
                   have g9:(s.size:Int)<4:=by omega
                   clear hl hr1 h5 h6 h7 h8 h9 hno hx;go_enter func217,ntmps217;go_wp2;go_ret2;exact⟨by rw[HX.out];rfl,Yag _ _⟩
                 · have g9: ¬ (s.size:Int)<4:=by omega
                   have hb2:2<s.size:=by omega
                   have hb3:3<s.size:=by omega
                   obtain⟨r2,hr2,hr21⟩:=Zqo hb2;obtain⟨r3,hr3,-⟩:=Zqo hb3;have hre:r=s[2]::s[3]::r3:=by rw[hr1,hr2,hr21,hr3]
                   have HX:Hid (Zcm s.data.toList=if Lib.indexByte hexL s[2]<0∨Lib.indexByte hexL s[3]<0 then(0,0)else(UInt8.ofNat ((Lib.indexByte hexL s[2]).toNat *16+(Lib.indexByte hexL s[3]).toNat),4)):=by
                    show _=_;rw[hl,Zma,hre,Zbgy]
                   have hx2:=Zban s[2];have hx3:=Zban s[3]
                   have hI: ∀ (c:UInt8) W,Calls prog 180 #[.string ⟨#[48,49,50,51,52,53,54,55,56,57,97,98,99,100,101,102]⟩, .int .u8 (c.toNat:Int)] W fun e w'=>e= .returned (.int .i64 (Lib.indexByte hexL c))∧w'=W:=fun c W=>by
                    have:=Tryz.strings_IndexByte ⟨#[48,49,50,51,52,53,54,55,56,57,97,98,99,100,101,102]⟩ (c.toNat:Int) W;have e:((c.toNat:Int).toNat).toUInt8=c:=by simp
                    rw[e]at this;exact this
                   have HI:=Zhd hI;clear hl hr1 h5 h6 h7 h8 h9 hno hx hre hr2 hr21 hr3 hI;have hb2i:(2:Int)<(s.size:Int):=by omega
                   have hb3i:(3:Int)<(s.size:Int):=by omega
                   go_enter func217,ntmps217;go_wp2_with fail;go_quiet ((go_at_call 180;exact Calls.quiet_of_same (HI.out _ _)));generalize Lib.indexByte hexL s[2]=a at *;generalize Lib.indexByte hexL s[3]=b at *;by_cases ha:a<0
                   · rw[Yam (.inl ha)]at HX;go_wp2;go_ret2;exact⟨by rw[HX.out];rfl,below_drewN (Yag _ _) _⟩
                   · by_cases hb:b<0
                     · rw[Yam (.inr hb)]at HX;go_wp2;go_ret2;exact⟨by rw[HX.out];rfl,below_drewN (Yag _ _) _⟩
                     · rw[Yab (by omega)]at HX
                       go_wp2;go_ret2;exact⟨by rw[HX.out,Zbgm (by omega) (by omega) (by omega) (by omega)];rfl,below_drewN (Yag _ _) _⟩
               · have HX:Hid (Zcm s.data.toList=(0,0)):=by
                  show _=_;rw[hl,Zma];exact Zbdj r hno fun h=>h8 (by rw[h];rfl)
                 have g8:((s[1].toNat:Int)!=120)=true:=by rw[bne_iff_ne];omega
                 clear hl hr1 h5 h6 h7 h8 hno;go_enter func217,ntmps217;go_wp2;go_ret2;exact⟨by rw[HX.out];rfl,Yag _ _⟩
       · have HX:Hid (Zcm s.data.toList=(s[0],1)):=by show _=_;rw[hl];exact Zaez _ _ h1 h2 h3 h4
         have g4:((s[0].toNat:Int)!=92)=true:=by rw[bne_iff_ne];omega
         clear hl hl1 h1 h2 h3 h4;go_enter func217,ntmps217;go_wp2;go_ret2;exact⟨by rw[HX.out];rfl,Yag _ _⟩
theorem Zamy {B b:Nat} {bs:List Value} {w w':World} (h:Lib.IsBuilder 221 5 B b bs w) (hb:Below w.heap.size w w'):Lib.IsBuilder 221 5 B b bs w':=by
 have key: ∀ p,Lib.BuilderAt 221 5 B b p bs w→Lib.BuilderAt 221 5 B b p bs w':=fun p ⟨h1,v,h2,h3,h4⟩=>by
  refine⟨h1,v, ?_,Zai h3 hb,h4⟩;have hlt:b<w.heap.size:=by
   rcases Ybp b w.heap.size with h'|h'
   · exact h'
   · rw[Yeh h']at h2;cases h2
  rw[←h2];exact hb.block b hlt
 exact h.imp (key _) (key _)
theorem Zbbn (w:World):Lib.IsBuilder 221 5 w.heap.size w.heap.size [] (w.alloc (.cells #[.pointer none, .slice none 0 0] 221)):=by
 refine .inl ⟨Yaf _, .slice none 0 0, ?_,World.ownsRow_nil _ _ _ _,by simp[Value.ownBlock]⟩
 exact heap_alloc_new w _
theorem Zapd (s:ByteArray) (w:World) (hs:s.size≤1000000):
 Calls prog 183 #[.string s] w fun e w'=>e= .returned (Zapc (Zew s.size s.data.toList))∧Below w.heap.size w w':=by
 obtain⟨R,hR⟩: ∃ R,Zew s.size s.data.toList=R:=⟨_,rfl⟩;rw[hR];have HR0:Hid (R=(Zew s.size s.data.toList).map ([]++ ·)):=by show _=_;rw[hR];cases R<;>rfl
 clear hR;go_enter func183,ntmps183;go_wp2;have hB0:=Zhd (Zbbn w);have hb0:=Zhd ((Yag w.heap.size w).alloc (Yaf _) (.cells #[.pointer none, .slice none 0 0] 221));change Code.wp _ _ _ _ (w.alloc (.cells #[.pointer none, .slice none 0 0] 221));generalize w.alloc (.cells #[.pointer none, .slice none 0 0] 221)=w1 at *;obtain⟨B,hB⟩: ∃ B,w.heap.size=B:=⟨_,rfl⟩;have HBs:=Zhd hB;rw[hB]at hB0 hb0⊢;have HLE:Hid (∀ W,Below B w W→B≤W.heap.size):=fun W h=>by have:=h.size;omega
 clear hB;go_loopw [0] (fun v wr=> ∃ (t:ByteArray) (acc:List UInt8) (f:Nat),v= .string t∧t.size≤f∧acc.length+t.size≤s.size∧Hid (R=(Zew f t.data.toList).map (acc++ ·))∧Hid (Lib.IsBuilder 221 5 B B (Lib.byteCells acc) wr)∧Hid (Below B w wr)) (fun v _=>match v with| .string t=>t.size|_=>0)
 case atStart=>exact⟨s,[],s.size,rfl,Yaf _,by simp,HR0,hB0,hb0⟩
 case round=>
  clear hB0 hb0 HR0;obtain⟨t,acc,f,rfl,hf,hacc,HR,HB,Hb⟩:=hrel;by_cases h0:0<t.size
  · obtain⟨r,hr,-⟩:=Zqo h0;rw[Yeu]at hr;have hne:t.toList.isEmpty=false:=Zgu h0;have hne2: ¬ t.toList= []:=by simpa using hne
    have hne3:(t.toList== [])=false:=by rw[Yak];exact hne2
    obtain⟨f,rfl⟩: ∃ g,f=g+1:=⟨f-1,by omega⟩
    have HP:=Zhd (fun W=>Zaqw t W (by omega) h0)
    have hst:=HR.out;rw[hr,Zqk]at hst;have hle:=Zayp t[0] r;rw[←hr]at hst hle;rw[Zak]at hle;generalize Zcm t.data.toList=p at *;obtain⟨c,n⟩:=p;simp only at hst hle;by_cases hn:n=0
    · subst hn;rw[Yam rfl]at hst;have HS:=Zhd hst;clear hst HR hr;go_wp2_with fail;refine(HP.out wr).mono ?_;unfold Zaqu;rintro e w2 ⟨rfl,hb2⟩;have HB2:=Zhd (Hb.out.trans (hb2.mono (HLE.out _ Hb.out)));clear hb2;go_wp2;go_ret2;exact⟨by rw[HS.out];rfl,by rw[HBs.out];exact HB2.out⟩
    · rw[Yab hn]at hst;have hnn:((n:Int)==0)=false:=by rw[Yak];omega
      have hni:(n:Int)≤(t.size:Int):=by omega
      have hn0:(0:Int)≤(n:Int):=by omega
      have HS:Hid (R=(Zew f (t.data.toList.drop n)).map ((acc++ [c])++ ·)):=by
       show _=_;rw[hst];cases Zew f (t.data.toList.drop n)<;>simp
      clear hst HR hr;go_wp2_with fail;refine(HP.out wr).mono ?_;unfold Zaqu;rintro e w2 ⟨rfl,hb2⟩;have HB2:=Zhd (Hb.out.trans (hb2.mono (HLE.out _ Hb.out)));have HBd:Hid (Lib.IsBuilder 221 5 B B (Lib.byteCells acc) w2):=Zamy HB.out hb2;clear hb2;have hal:(Lib.byteCells acc).length+1≤1000000000:=by rw[Lib.byteCells_length];omega
      go_wp2_with fail;refine(Zzs B B (Lib.byteCells acc) (c.toNat:Int) _ HBd.out hal (HLE.out _ HB2.out)).mono ?_;rintro e w3 ⟨rfl,hbd3,hb3⟩;have HB3:=Zhd (HB2.out.trans hb3);have HBd3:Hid (Lib.IsBuilder 221 5 B B (Lib.byteCells (acc++ [c])) w3):= .inr (by rw[Lib.byteCells_append];exact hbd3)
      clear hbd3 hb3;go_wp2_with fail;go_roundw
      case rel=>exact⟨t.extract n t.size,acc++ [c],f,rfl,by rw[Zgq n t.size (Yaf _)];omega,by rw[Zgq n t.size (Yaf _),Yae,Ybz];omega,by show _=_;rw[Zoo];exact HS.out,HBd3,HB3⟩
      case measure=>show(t.extract n t.size).size<t.size;rw[Zgq n t.size (Yaf _)];omega
  · have ht:t=⟨#[]⟩:=by
     have:t.data.toList= []:=Yap (by rw[Zak];omega)
     exact ByteArray.ext (Yec.1 this)
    subst ht;have HS:Hid (R=some acc):=by show _=_;rw[HR.out,show(⟨#[]⟩:ByteArray).data.toList= []from rfl,Zll];simp
    clear HR;go_wp2_with fail;refine(Tryz.Builder_String_any B B acc _ HB.out (HLE.out _ Hb.out)).mono ?_;rintro e w2 ⟨rfl,hb2⟩;go_wp2;go_ret2;exact⟨by rw[HS.out];rfl,by rw[HBs.out];exact Hb.out.trans hb2⟩
end Go.Proofs.Zq
namespace Go.Proofs
open Go.Shelf
def Tryz.lays143_ren:Go.Shelf.Ren:=⟨fun|143=>169|219=>203|217=>215|225=>224|224=>225|267=>226|266=>241|314=>243|n=>n,fun|9=>9|3=>3|4=>4|5=>5|46=>176|146=>280|51=>211|n=>n,fun|1=>0|n=>n⟩
theorem Tryz.lays143:Go.Proofs.Lays.n143 prog Tryz.lays143_ren:={
 mixed:=by kernel_rfl
 f143:=func169.trans (congrArg some (by kernel_rfl))
 f217:=func215.trans (congrArg some (by kernel_rfl))
 f219:=func203.trans (congrArg some (by kernel_rfl))
 f224:=func225.trans (congrArg some (by kernel_rfl))
 f225:=func224.trans (congrArg some (by kernel_rfl))
 f266:=func241.trans (congrArg some (by kernel_rfl))
 f267:=func226.trans (congrArg some (by kernel_rfl))
 f314:=func243.trans (congrArg some (by kernel_rfl))
 t3:=underlying3
 a3:=Tryz.isAgg3
 z3:=Tryz.sizeOf3
 v3:=Tryz.zeroValue3
 t4:=underlying4
 a4:=Tryz.isAgg4
 z4:=Tryz.sizeOf4
 v4:=Tryz.zeroValue4
 t5:=underlying5
 a5:=Tryz.isAgg5
 z5:=Tryz.sizeOf5
 v5:=Tryz.zeroValue5
 t9:=underlying9
 a9:=Tryz.isAgg9
 z9:=Tryz.sizeOf9
 v9:=Tryz.zeroValue9
 t46:=underlying176
 a46:=Tryz.isAgg176
 z46:=Tryz.sizeOf176
 v46:=Tryz.zeroValue176
 t51:=underlying211
 a51:=Tryz.isAgg211
 z51:=Tryz.sizeOf211
 v51:=Tryz.zeroValue211
 t146:=underlying280
 a146:=Tryz.isAgg280
 z146:=Tryz.sizeOf280
 v146:=Tryz.zeroValue280
 g1:=by kernel_rfl}
open Go.RowKit Go.Lib in
theorem Tryz.strings_Index (s sub:ByteArray) (m:Int) (w:World) (hs:s.size<4294967281) (hm:w.cell? ⟨0,0,none⟩=some (.int .i64 m)):
 Calls prog 169 #[.string s, .string sub] w fun e w'=>e= .returned (.int .i64 (Lib.index s.data.toList sub.data.toList))∧w'=w:=Any.strings_Index Tryz.lays143 s sub m w hs hm
open Go.RowKit Go.Lib Go.Sort in
theorem Tryz.slices_Reverse_string_cells (b off n c:Nat) (Sx:Nat→ByteArray) (w:World) (hbig:n≤9223372036854775807) (hc: ∀ i,i<n→w.cell? ⟨b,off+i,none⟩=some (.string (Sx i))) (hf: ∀ j,j<n→w.frozen? ⟨b,off+j,none⟩=false):
 Calls prog 80 #[.slice (some ⟨b,off,none⟩) n c] w fun e w'=>e= .returned (.tuple #[])∧ ∃ q,w'=(w.drewN q).setCells b off ((Lib.strsOf Sx n).reverse.map encStr):=Any.slices_Reverse_string_cells Tryz.laysNm217 b off n c Sx w hbig hc hf
end Go.Proofs
namespace Go.Proofs.Zq
open Tryz
open Go Go.RowKit Go.Sort Lx
theorem Zata {l:List UInt8} (h:l.getD 0 0≠34):unqB l=if(decide (l≠ [])&&decide (runB l=l.length)&& !(markB l))=true then(if 40<l.length then([],5)else(l,0))else([],2):=by
 unfold unqB;rw[Yai (p:=l.getD 0 0=34) h];simp only[Yeo,Yfi,Yeb,if_false];by_cases hb:(decide (l≠ [])&&decide (runB l=l.length)&& !(markB l))=true
 · rw[Yam hb,Yam hb]
 · rw[Yab hb,Yab hb]
def Zex (r:List UInt8×Int):Value:= .tuple #[.string ⟨r.1.toArray⟩, .int .i64 r.2]
theorem Zaft (s:ByteArray) (w:World) (hs:s.size≤1000000000) (hp:0<s.size) (h34:s[0]≠34):
 Calls prog 148 #[.string s] w fun e w'=>e= .returned (Zex (unqB s.data.toList))∧w'=w:=by
 have HR:=Zhd (Zafg s w hs);have HM:=Zhd (Zaxr s w);have hg:s.data.toList.getD 0 0=s[0]:=by
  rw[Yar,Yaj (by rw[Zak];exact hp)];rfl
 have hU:=Zata (l:=s.data.toList) (by rw[hg];exact h34)
 have hl:=Zak s;have hnz:s.data.toList≠ []:=fun e=>by rw[e]at hl;simp at hl;omega
 rw[Yal hnz,hl,Ydw]at hU;have HS:Hid (s=⟨s.data.toList.toArray⟩):=(mk_data s).symm;have HU:=Zhd hU;have he:s.toList.isEmpty=false:=Zgu hp;have he2: ¬ s.toList= []:=by simpa using he
 have hne:((s[0].toNat:Int)==34)=false:=ne34 h34;have hrl:=Zaff s.data.toList;rw[hl]at hrl;clear hU hg hl hnz h34;generalize runB s.data.toList=n at *;generalize markB s.data.toList=b at *;go_enter func148,ntmps148;by_cases hn:n=s.size
 · have hn':((n:Int)==(s.size:Int))=true:=by rw[beq_iff_eq];omega
   cases b with
   | true=>
     have HK:Hid (unqB s.data.toList=([],2)):=by show _=_;rw[HU.out];simp
     clear HU HS;go_wp2_with (first|(go_at_call 181;refine HR.out.mono ?_;rintro e w' ⟨rfl,rfl⟩)|(go_at_call 182;refine HM.out.mono ?_;rintro e w' ⟨rfl,rfl⟩))
     all_goals exact bodyPost_ret (v:=Zex ([],2)) (by simp[results,results148,go_sem,Zex]) rfl ⟨by rw[HK.out],rfl⟩
   | false=>
     by_cases h40:40<s.size
     · have HK:Hid (unqB s.data.toList=([],5)):=by show _=_;rw[HU.out,Yal hn,Yam (by rfl),Yam h40]
       clear HU HS;go_wp2_with (first|(go_at_call 181;refine HR.out.mono ?_;rintro e w' ⟨rfl,rfl⟩)|(go_at_call 182;refine HM.out.mono ?_;rintro e w' ⟨rfl,rfl⟩))
       all_goals exact bodyPost_ret (v:=Zex ([],5)) (by simp[results,results148,go_sem,Zex]) rfl ⟨by rw[HK.out],rfl⟩
     · have HK:Hid (unqB s.data.toList=(s.data.toList,0)):=by show _=_;rw[HU.out,Yal hn,Yam (by rfl),Yab h40]
       have HV:Hid (Zex (s.data.toList,0)= .tuple #[.string s, .int .i64 0]):=by show _=_;unfold Zex;rw[←HS.out]
       clear HU HS;go_wp2_with (first|(go_at_call 181;refine HR.out.mono ?_;rintro e w' ⟨rfl,rfl⟩)|(go_at_call 182;refine HM.out.mono ?_;rintro e w' ⟨rfl,rfl⟩))
       all_goals exact bodyPost_ret (v:= .tuple #[.string s, .int .i64 0]) (by simp[results,results148,go_sem]) rfl ⟨by rw[HK.out,HV.out],rfl⟩
 · have hn':((n:Int)==(s.size:Int))=false:=by rw[Yak];omega
   have HK:Hid (unqB s.data.toList=([],2)):=by show _=_;rw[HU.out,Yai hn];rfl
   clear HU HS;go_wp2_with (first|(go_at_call 181;refine HR.out.mono ?_;rintro e w' ⟨rfl,rfl⟩)|(go_at_call 182;refine HM.out.mono ?_;rintro e w' ⟨rfl,rfl⟩))
   all_goals exact bodyPost_ret (v:=Zex ([],2)) (by simp[results,results148,go_sem,Zex]) rfl ⟨by rw[HK.out],rfl⟩
theorem Zaxd (l sub:List UInt8):Lib.index l sub≤l.length:=by
 induction l with
 |nil=>unfold Lib.index;split<;>simp
 | cons b l ih=>
   unfold Lib.index;split
   · simp;omega
   · split
     · simp;omega
     · simp;omega
theorem Zaxc (l sub:List UInt8): -1≤Lib.index l sub:=by
 induction l with
 |nil=>unfold Lib.index;split<;>simp
 | cons b l ih=>
   unfold Lib.index;split
   · omega
   · split
     · omega
     · omega
theorem Zadk (s:ByteArray) (p:Nat) (w:World) (hE:Env w) (hs:s.size≤1000000000) (hp:p≤s.size):
 Calls prog 144 #[.string s, .int .i64 p] w fun e w'=>e= .returned (.int .i64 (comB s.data.toList p))∧w'=w:=by
 obtain⟨m,hm⟩:=hE.mx;have hP1:=Tryz.strings_HasPrefix (s.extract p s.size) ⟨#[35]⟩ w;have hP2:=Tryz.strings_HasPrefix (s.extract p s.size) ⟨#[47,42]⟩ w;have hI:=Tryz.strings_IndexByte (s.extract p s.size) 10 w;have hsz:=Zgq (s:=s) p s.size (Yaf _);have hJ:=fun(h2:2≤s.size-p)=>Tryz.strings_Index ((s.extract p s.size).extract 2 (s.size-p)) ⟨#[42,47]⟩ m w (by rw[Zgq 2 (s.size-p) (by omega)];omega) hm
 have hx2: ∀ h2:2≤s.size-p,((s.extract p s.size).extract 2 (s.size-p)).data.toList=(s.data.toList.drop p).drop 2:=fun h2=>by
  have:=Zoo (s.extract p s.size) 2;rw[hsz,Zoo]at this;exact this
 have hlen:(s.data.toList.drop p).length=s.size-p:=by rw[Yan,Zak]
 rw[Zoo]at hP1 hP2 hI
 have hX:comB s.data.toList p=(if Lib.hasPrefix (s.data.toList.drop p) [35]=true then(if Lib.indexByte (s.data.toList.drop p) 10<0 then(s.data.toList.length:Int)else(p:Int)+Lib.indexByte (s.data.toList.drop p) 10)
  else if Lib.hasPrefix (s.data.toList.drop p) [47,42]=true then(if Lib.index ((s.data.toList.drop p).drop 2) [42,47]<0 then -1 else(p:Int)+Lib.index ((s.data.toList.drop p).drop 2) [42,47]+4)else(p:Int)):=rfl
 rw[Zak]at hX
 have h2p:Lib.hasPrefix (s.data.toList.drop p) [47,42]=true→2≤s.size-p:=fun h=>by
  rw[←hlen];have:=List.IsPrefix.length_le (List.isPrefixOf_iff_prefix.1 h);simpa using this
 have hb1:=Zabh (s.data.toList.drop p) 10;have hb2:=Zaxd ((s.data.toList.drop p).drop 2) [42,47];have hb3:=Zaxc ((s.data.toList.drop p).drop 2) [42,47];have hb4:=Lib.indexByte_ge (s.data.toList.drop p) 10;rw[hlen]at hb1;rw[Yan,hlen]at hb2;have hI2:Calls prog 180 #[.string (s.extract p s.size), .int .u8 10] w fun e w'=>e= .returned (.int .i64 (Lib.indexByte (s.data.toList.drop p) 10))∧w'=w:=hI
 have HJ:=Zhd (fun h2=>by have:=hJ h2;rw[hx2 h2]at this;exact this)
 have HX:=Zhd hX;have HI:=Zhd hI2;have HP1:=Zhd hP1;have HP2:=Zhd hP2;clear hX hI hI2 hJ hP1 hP2 hx2 hm hE;generalize Lib.hasPrefix (s.data.toList.drop p) [35]=a1 at *;generalize Lib.hasPrefix (s.data.toList.drop p) [47,42]=a2 at *;generalize Lib.indexByte (s.data.toList.drop p) 10=i1 at *;generalize Lib.index ((s.data.toList.drop p).drop 2) [42,47]=i2 at *;clear hlen;cases a1 with
 | true=>
   by_cases h1:i1<0
   · have HK:Hid (comB s.data.toList p=(s.size:Int)):=by show _=_;rw[HX.out,Yam rfl,Yam h1]
     clear HX HJ h2p hb2 hb3;go_enter func144,ntmps144;go_wp2_with (first|(go_at_call 104;refine HP1.out.mono ?_;rintro e w' ⟨rfl,rfl⟩)|(go_at_call 180;refine HI.out.mono ?_;rintro e w' ⟨rfl,rfl⟩))
     go_ret;exact⟨by rw[HK.out];rfl,rfl⟩
   · have HK:Hid (comB s.data.toList p=(p:Int)+i1):=by show _=_;rw[HX.out,Yam rfl,Yab h1]
     clear HX HJ h2p hb2 hb3;go_enter func144,ntmps144;go_wp2_with (first|(go_at_call 104;refine HP1.out.mono ?_;rintro e w' ⟨rfl,rfl⟩)|(go_at_call 180;refine HI.out.mono ?_;rintro e w' ⟨rfl,rfl⟩))
     go_ret;exact⟨by rw[HK.out];go_num,rfl⟩
 | false=>
   cases a2 with
   | true=>
     have h2:=h2p rfl;have HJ2:=Zhd (HJ.out h2);by_cases h1:i2<0
     · have HK:Hid (comB s.data.toList p= -1):=by show _=_;rw[HX.out,Yab (by decide),Yam rfl,Yam h1]
       clear HX HJ h2p hb1 hb4;go_enter func144,ntmps144;go_wp2_with (first|(go_at_call_of 104 (Value.string (s.extract p s.size));(first|(refine HP1.out.mono ?_;rintro e w' ⟨rfl,rfl⟩)|(refine HP2.out.mono ?_;rintro e w' ⟨rfl,rfl⟩)))|(go_at_call 169;refine HJ2.out.mono ?_;rintro e w' ⟨rfl,rfl⟩))
       go_ret;exact⟨by rw[HK.out];rfl,rfl⟩
     · have HK:Hid (comB s.data.toList p=(p:Int)+i2+4):=by show _=_;rw[HX.out,Yab (by decide),Yam rfl,Yab h1]
       clear HX HJ h2p hb1 hb4;go_enter func144,ntmps144;go_wp2_with (first|(go_at_call_of 104 (Value.string (s.extract p s.size));(first|(refine HP1.out.mono ?_;rintro e w' ⟨rfl,rfl⟩)|(refine HP2.out.mono ?_;rintro e w' ⟨rfl,rfl⟩)))|(go_at_call 169;refine HJ2.out.mono ?_;rintro e w' ⟨rfl,rfl⟩))
       go_ret;exact⟨by rw[HK.out];go_num,rfl⟩
   | false=>
     have HK:Hid (comB s.data.toList p=(p:Int)):=by show _=_;rw[HX.out,Yab (by decide),Yab (by decide)]
     clear HX HJ h2p hb1 hb2 hb3 hb4;go_enter func144,ntmps144;go_wp2_with (go_at_call_of 104 (Value.string (s.extract p s.size));(first|(refine HP1.out.mono ?_;rintro e w' ⟨rfl,rfl⟩)|(refine HP2.out.mono ?_;rintro e w' ⟨rfl,rfl⟩)))
     go_ret;exact⟨by rw[HK.out];rfl,rfl⟩
end Go.Proofs.Zq
namespace Lx
open Go Go.Lib
theorem Zaoy (l sub:List UInt8):Lib.index l sub= -1∨Lib.index l sub+sub.length≤l.length:=by
 induction l with
 | nil=>
   unfold Lib.index;cases sub with
   |nil=>right;simp
   |cons a b=>left;rfl
 | cons b l ih=>
   unfold Lib.index;by_cases h1:sub.isPrefixOf (b::l)=true
   · rw[Yam h1];right;have:=(List.isPrefixOf_iff_prefix.1 h1).length_le;omega
   · rw[Yab h1];by_cases h2:(Lib.index l sub== -1)=true
     · rw[Yam h2];left;rfl
     · rw[Yab h2];right;rcases ih with h|h
       · rw[h]at h2;exact absurd rfl h2
       · simp only[Ybd];omega
theorem Zbaf {l:List UInt8} {p:Nat} (hp:p<l.length):comB l p<0∨comB l p=(p:Int)∨((p:Int)<comB l p∧comB l p≤(l.length:Int)):=by
 unfold comB;simp only;have hd:l.drop p=l[p]::l.drop (p+1):=Yaz hp;have hlen:(l.drop p).length=l.length-p:=Yan;by_cases h1:hasPrefix (l.drop p) [35]=true
 · rw [Yam h1];by_cases h2:indexByte (l.drop p) 10<0
   · rw[Yam h2];right;right;omega
   · rw [Yab h2];right;right;have hc:l[p]=35:=by
      rw[hd]at h1;have:=(List.isPrefixOf_iff_prefix.1 h1);exact(List.cons_prefix_cons.1 this).1.symm
     have h3:=Zrf (l.drop p) 10;rw[hlen]at h3
     have h4:indexByte (l.drop p) 10≠0:=by
      rw[hd,hc];unfold indexByte;rw[Yab (by decide)]
      have:=indexByte_ge (l.drop (p+1)) 10;split
      · omega
      · rename_i hh;have:indexByte (l.drop (p+1)) 10≠ -1:=fun e=>hh (by rw[e];rfl)
        omega
     omega
 · rw[Yab h1];by_cases h2:hasPrefix (l.drop p) [47,42]=true
   · rw[Yam h2];by_cases h3:index ((l.drop p).drop 2) [42,47]<0
     · rw[Yam h3];left;omega
     · rw[Yab h3];right;right;have:=Zaoy ((l.drop p).drop 2) [42,47];simp only[Yan,Ybd,Ydz]at this;omega
   · rw[Yab h2];right;left;rfl
theorem Zsm (s:List UInt8): ∀ (f p:Nat),p≤s.length→(Zar s f p).1≤s.length∧p≤(Zar s f p).1
 |0,p,h=>by unfold Zar;exact⟨h,Yaf _⟩
 | f + 1,p,h=>by
   unfold Zar;by_cases h1:p<s.length
   · rw [Yam h1];by_cases h2:Zeg (s.getD p 0)=true
     · rw[Yam h2];have:=Zsm s f (p+1) (by omega);omega
     · rw [Yab h2];by_cases h3:comB s p<0
       · rw[Yam h3];exact⟨h,Yaf _⟩
       · rw[Yab h3];by_cases h4:comB s p=(p:Int)
         · rw[Yam h4];exact⟨h,Yaf _⟩
         · rw[Yab h4];have hc:=Zbaf h1;have:=Zsm s f (comB s p).toNat (by omega)
           omega
   · rw[Yab h1];exact⟨h,Yaf _⟩
end Lx
namespace Go.Proofs.Zq
open Tryz
open Go Go.RowKit Go.Sort Lx
theorem Zamx (c:UInt8):Zeg c=(decide (c.toNat=32)||decide (c.toNat=9)||decide (c.toNat=10)||decide (c.toNat=13)):=by
 unfold Zeg
 have e: ∀ d:UInt8,(c==d)=decide (c.toNat=d.toNat):=fun d=>by
  rw[Yby,beq_iff_eq,Yao];exact⟨fun h=>by rw[h],fun h=>Ybx.1 h⟩
 rw[e,e,e,e];rfl
theorem Zaoj {s:ByteArray} {k:Nat} (h:k<s.size):s.data.toList.getD k 0=s[k]:=by
 rw[Yar,Yaj (by rw[Zak];exact h)];rfl
def Zadh (r:Nat×Bool):Value:= .tuple #[.int .i64 r.1, .bool r.2]
theorem Zajf {s:ByteArray} {q f:Nat} (hq:q<s.size):Zar s.data.toList (f+1) q=if Zeg s[q]=true then Zar s.data.toList f (q+1)else if comB s.data.toList q<0 then(q,false)else if comB s.data.toList q=(q:Int)then(q,true)else Zar s.data.toList f (comB s.data.toList q).toNat:=by
 show(if q<s.data.toList.length then _ else _)=_
 rw[Yam (by rw[Zak];exact hq),Zaoj hq]
theorem Zajg (s:ByteArray) (p:Nat) (w:World) (hE:Env w) (hs:s.size≤1000000000) (hp:p≤s.size):
 Calls prog 112 #[.string s, .int .i64 p] w fun e w'=>e= .returned (Zadh (Zar s.data.toList (s.size+1) p))∧w'=w:=by
 have HC:=Zhd (fun q (hq:q≤s.size)=>Zadk s q w hE hs hq)
 have HA:Hid (∀ q,q<s.size→comB s.data.toList q<0∨comB s.data.toList q=(q:Int)∨((q:Int)<comB s.data.toList q∧comB s.data.toList q≤(s.size:Int))):=fun q hq=>by
  have:=Zbaf (l:=s.data.toList) (p:=q) (by rw[Zak];exact hq)
  rwa [Zak]at this
 clear hE;go_enter func112,ntmps112;go_wp2;go_step3;go_wp2;go_step3;go_wp2;go_loopw [1] (fun vi wr=> ∃ q f:Nat,q≤s.size∧s.size-q<f∧vi= .int .i64 q∧wr=w∧Hid (Zar s.data.toList (s.size+1) p=Zar s.data.toList f q)) (fun vi _=>s.size-(intOf vi).toNat)
 case atStart=>exact⟨p,s.size+1,hp,by omega,rfl,rfl,rfl⟩
 case round=>
  obtain⟨q,f,hq,hf,rfl,rfl,HQ⟩:=hrel;by_cases hlt:q<s.size
  · obtain ⟨g,rfl⟩: ∃ g,f=g+1:=⟨f-1,by omega⟩
    have hst:=HQ.out.trans (Zajf hlt);have HCq:=Zhd (HC.out q hq);have ha:=HA.out q hlt;have hbn:=Zamx s[q];have hc256:=s[q].toNat_lt;clear HQ HC HA;generalize comB s.data.toList q=m at *;have HST:=Zhd hst;clear hst;by_cases hbl:Zeg s[q]=true
    · have HN:Hid (Zar s.data.toList (s.size+1) p=Zar s.data.toList g (q+1)):=by show _=_;rw[HST.out,Yam hbl]
      rw[hbl]at hbn;clear HST hbl HCq ha;have h4:s[q].toNat=32∨s[q].toNat=9∨s[q].toNat=10∨s[q].toNat=13:=by
       have:=hbn.symm;simp only[Yef,Yao]at this;omega
      clear hbn hc256;rcases h4 with h4|h4|h4|h4
      all_goals
       go_wp2
       all_goals
        go_roundw
        case rel=>exact⟨q+1,g,by omega,by omega,by go_num,by simp,HN⟩
        case measure=>simp[intOf];omega
    · have hbf:Zeg s[q]=false:=by simpa using hbl
      rw[hbf]at hbn;have HST2:Hid (Zar s.data.toList (s.size+1) p=if m<0 then(q,false)else if m=(q:Int)then(q,true)else Zar s.data.toList g m.toNat):=by show _=_;rw[HST.out,Yab hbl]
      clear HST hbl hbf;have h4:s[q].toNat≠32∧s[q].toNat≠9∧s[q].toNat≠10∧s[q].toNat≠13:=by
       have:=hbn.symm;simp only[Ydl,decide_eq_false_iff_not]at this;omega
      clear hbn;have g1:((s[q].toNat:Int)==32)=false:=by rw[Yak];omega
      have g2:((s[q].toNat:Int)==9)=false:=by rw[Yak];omega
      have g3:((s[q].toNat:Int)==10)=false:=by rw[Yak];omega
      have g4:((s[q].toNat:Int)==13)=false:=by rw[Yak];omega
      clear h4 hc256;by_cases hm0:m<0
      · have HN:Hid (Zar s.data.toList (s.size+1) p=(q,false)):=by show _=_;rw[HST2.out,Yam hm0]
        clear HST2 ha;go_wp2_with (go_at_call 144;refine HCq.out.mono ?_;rintro e w' ⟨rfl,rfl⟩)
        all_goals
         try rw[Exit.noGoto_ret]
         exact bodyPost_ret (v:=Zadh (q,false)) (by simp[results,results112,go_sem,Zadh]) rfl ⟨by rw[HN.out],rfl⟩
      · by_cases hmq:m=(q:Int)
        · have HN:Hid (Zar s.data.toList (s.size+1) p=(q,true)):=by show _=_;rw[HST2.out,Yab hm0,Yam hmq]
          subst hmq;clear HST2 ha;go_wp2_with (go_at_call 144;refine HCq.out.mono ?_;rintro e w' ⟨rfl,rfl⟩)
          all_goals
           try rw[Exit.noGoto_ret]
           exact bodyPost_ret (v:=Zadh (q,true)) (by simp[results,results112,go_sem,Zadh]) rfl ⟨by rw[HN.out],rfl⟩
        · have HN:Hid (Zar s.data.toList (s.size+1) p=Zar s.data.toList g m.toNat):=by show _=_;rw[HST2.out,Yab hm0,Yab hmq]
          obtain⟨k,rfl⟩: ∃ k:Nat,m=(k:Int):=⟨m.toNat,by omega⟩
          have hk1:q<k∧k≤s.size:=by omega
          have hkq:((k:Int)==(q:Int))=false:=by rw[Yak];omega
          have HN2:Hid (Zar s.data.toList (s.size+1) p=Zar s.data.toList g k):=HN;clear HST2 ha hmq HN;go_wp2_with (go_at_call 144;refine HCq.out.mono ?_;rintro e w' ⟨rfl,rfl⟩);go_roundw
          case rel=>exact⟨k,g,hk1.2,by omega,by go_num,by simp,HN2⟩
          case measure=>simp[intOf];omega
  · obtain rfl:q=s.size:=by omega
    obtain⟨g,rfl⟩: ∃ g,f=g+1:=⟨f-1,by omega⟩
    have HN:Hid (Zar s.data.toList (s.size+1) p=(s.size,true)):=by
     show _=_;rw[HQ.out];show(if s.size<s.data.toList.length then _ else _)=_
     rw[Yab (by rw[Zak];omega)]
    clear HQ;go_wp2
    all_goals
     try rw[Exit.noGoto_ret]
     exact bodyPost_ret (v:=Zadh (s.size,true)) (by simp[results,results112,go_sem,Zadh]) rfl ⟨by rw[HN.out],rfl⟩
end Go.Proofs.Zq
namespace Lx
open Go
def Tok.cells (t:Tok):List Value:= [.int .i64 t.kind, .int .i64 t.at_, .string t.word, .int .i64 t.bit]
def Tok.agg (t:Tok):Value:= .agg #[.int .i64 t.kind, .int .i64 t.at_, .string t.word, .int .i64 t.bit]
def toks (L:List Tok):List Value:=L.flatMap Tok.cells
theorem Zafr (L:List Tok):(toks L).length=L.length*4:=by
 unfold toks
 induction L with
 |nil=>rfl
 |cons e L ih=>simp only[Ybl,Yae,ih,Ybd,Tok.cells];simp;omega
theorem Zazo (L:List Tok) (i j:Nat) (hi:i<L.length) (hj:j<4):(toks L)[i*4+j]?=(L[i].cells)[j]?:=by
 unfold toks
 induction L generalizing i with
 |nil=>cases hi
 | cons e L ih=>
   cases i with
   |zero=>rw[Ybl,Ych (by simp[Tok.cells];omega)];simp
   | succ i=>
     rw[Ybl,Ybm (by simp[Tok.cells];omega),show(i+1)*4+j-e.cells.length=i*4+j by simp[Tok.cells];omega]
     simpa using ih i (by simpa using hi)
theorem Zuy (L M:List Tok):toks (L++M)=toks L++toks M:=by unfold toks;simp
theorem Zaio (e:Tok):toks [e]=e.cells:=by unfold toks;simp
theorem Zasw (e:Tok): ∀ u∈e.cells,u.oneCell'=true:=by
 intro u hu;simp only[Tok.cells,Yav,Ybq,or_false]at hu;rcases hu with rfl|rfl|rfl|rfl<;>rfl
def Zpt (r:Tok×Nat×Int):Value:= .tuple #[r.1.agg, .int .i64 r.2.1, .int .i64 r.2.2]
theorem Zbdu {s:List UInt8} {p:Nat} {c:UInt8} (hc:s.getD p 0=c):tokB s p=if 0<Zjn c then(⟨Zjn c,p,⟨#[]⟩,0⟩,p+1,0)
 else if Zet (s.drop p)=0 then(⟨0,0,⟨#[]⟩,0⟩,0,2)
 else if 0<bitB ((s.drop p).take (Zet (s.drop p)))then(⟨5,p,⟨#[]⟩,bitB ((s.drop p).take (Zet (s.drop p)))⟩,p+Zet (s.drop p),0)
 else(⟨1,p,⟨(unqB ((s.drop p).take (Zet (s.drop p)))).1.toArray⟩,0⟩,p+Zet (s.drop p),(unqB ((s.drop p).take (Zet (s.drop p)))).2):=by
 unfold tokB;rw[hc]
end Lx
namespace Go.Proofs.Zq
open Tryz
open Go Go.RowKit Go.Sort Lx
end Go.Proofs.Zq
namespace Lx
open Go
theorem Zazn {s:List UInt8} {p:Nat} (hp:p<s.length) (h:(tokB s p).2.2=0):p<(tokB s p).2.1∧(tokB s p).2.1≤s.length:=by
 have hle:=Zzj (s.drop p);rw[Yan]at hle;unfold tokB at h⊢;by_cases h1:0<Zjn (s.getD p 0)
 · rw[Yam h1];show p<p+1∧p+1≤s.length;omega
 · rw[Yab h1]at h⊢;by_cases h2:Zet (s.drop p)=0
   · rw[Yam h2]at h;simp at h
   · rw[Yab h2];simp only;split
     · show p<p+Zet (s.drop p)∧p+Zet (s.drop p)≤s.length;omega
     · show p<p+Zet (s.drop p)∧p+Zet (s.drop p)≤s.length;omega
section
variable {s:List UInt8} {f p:Nat} {out:List Tok}
theorem Zbfu (h:(Zar s (s.length+1) p).2=false):Zjr s (f+1) p out=([],(Zar s (s.length+1) p).1,2):=by
 show(if(Zar s (s.length+1) p).2=false then _ else _)=_
 rw[Yam h]
theorem Zbbf (h:(Zar s (s.length+1) p).2=true) (h1:(Zar s (s.length+1) p).1=s.length):Zjr s (f+1) p out=(out,0,0):=by
 show(if(Zar s (s.length+1) p).2=false then _ else if(Zar s (s.length+1) p).1=s.length then _ else _)=_
 rw[Yab (by rw[h];simp),Yam h1]
theorem Zbbg (h:(Zar s (s.length+1) p).2=true) (h1:(Zar s (s.length+1) p).1≠s.length) (h2:(tokB s (Zar s (s.length+1) p).1).2.2≠0):
 Zjr s (f+1) p out=([],(Zar s (s.length+1) p).1,(tokB s (Zar s (s.length+1) p).1).2.2):=by
 show(if(Zar s (s.length+1) p).2=false then _ else if(Zar s (s.length+1) p).1=s.length then _ else if(tokB s (Zar s (s.length+1) p).1).2.2≠0 then _ else _)=_
 rw[Yab (by rw[h];simp),Yab h1,Yam h2]
theorem Zbft (h:(Zar s (s.length+1) p).2=true) (h1:(Zar s (s.length+1) p).1≠s.length) (h2:(tokB s (Zar s (s.length+1) p).1).2.2=0):
 Zjr s (f+1) p out=Zjr s f (tokB s (Zar s (s.length+1) p).1).2.1 (out++ [(tokB s (Zar s (s.length+1) p).1).1]):=by
 show(if(Zar s (s.length+1) p).2=false then _ else if(Zar s (s.length+1) p).1=s.length then _ else if(tokB s (Zar s (s.length+1) p).1).2.2≠0 then _ else _)=_
 rw[Yab (by rw[h];simp),Yab h1,Yab (by rw[h2];simp)]
end
end Lx
namespace Go.Proofs.Zq
open Tryz
open Go Go.RowKit Go.Sort Lx
theorem Zaxe:(prog.info? 161).map (fun i=>(i.zero,i.size,i.bytes))=some (some (.agg #[.int .i64 0, .int .i64 0, .string ⟨#[]⟩, .int .i64 0]),4,40):=by kernel_rfl
def Zamg (s:ByteArray) (w:World) (e:Ending) (w':World):Prop:=
 (∃ v,e= .returned (.tuple #[v, .int .i64 (allB s.data.toList).2.1, .int .i64 (allB s.data.toList).2.2])∧w'.ownsRow w.heap.size 161 4 v (allB s.data.toList).1.length (toks (allB s.data.toList).1))∧Below w.heap.size w w'
theorem Zabz {w:World} {base:Nat} {T:TypeId} {v:Value} {l:List Tok} {t:Tok} (h:w.ownsRow base T 4 v (l.length+1) (toks l++t.cells)):w.ownsRow base T 4 v (l++ [t]).length (toks (l++ [t])):=by
 rw[Zuy,Zaio,Yae];exact h
end Go.Proofs.Zq
