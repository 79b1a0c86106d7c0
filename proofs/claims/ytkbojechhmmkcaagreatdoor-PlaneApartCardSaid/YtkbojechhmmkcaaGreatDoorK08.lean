import Derived.Deep.DeepCutAuto
import Derived.Deep.CutBlock
import Derived.StillTailTactics
import Derived.Test.YtkbojechhmmkcaaGreatDoorK07
set_option linter.unusedVariables false
set_option linter.unusedSimpArgs false
set_option maxHeartbeats 4000000
set_option maxRecDepth 100000
namespace Prs
open Go Go.Lib Tre Lx
def Zbu {α:Type} (f:α→Bool):Nat→List α→Int
 |_,[]=> -1
 |k,r::l=>if f r then(k:Int)else Zbu f (k+1) l
theorem Zagx {α:Type} {f:α→Bool} {L:List α} {k:Nat} (h:k<L.length):Zbu f k (L.drop k)=if f L[k]then(k:Int)else Zbu f (k+1) (L.drop (k+1)):=by
 rw[Yaz h];rfl
theorem Zaec {α:Type} (f:α→Bool): ∀ (l:List α) (k:Nat),decide (0≤Zbu f k l)=l.any f
 | [],_=>rfl
 | r::l,k=>by
   unfold Zbu;rw[List.any_cons];cases h:f r with
   |true=>rw[Yam rfl,Yal (by omega)];rfl
   |false=>rw[Yab (by simp),Zaec f l (k+1)];rfl
def Zalz (u:Int) (s:ByteArray) (n:Nd):Bool:=decide (n.up=u)&&decide (n.line.word=s)
theorem bts_same {a b:ByteArray} (h:a.toList=b.toList):a=b:=ByteArray.ext (Yec.1 (by rwa [Lib.toList_data,Lib.toList_data]at h))
end Prs
namespace Go.Proofs.Zq
open Tryz
open Go Go.RowKit Go.Sort Tre Lx Prs
theorem Zapz (n:Nd) (pu pw:Nat) (u:Int) (s:ByteArray) (w:World) (hu:w.cell? ⟨pu,0,none⟩=some (.int .i64 u)) (hs:w.cell? ⟨pw,0,none⟩=some (.string s)):
 Calls prog 151 #[n.agg, .pointer (some ⟨pu,0,none⟩), .pointer (some ⟨pw,0,none⟩)] w fun e w'=>e= .returned (.bool (Zalz u s n))∧Below w.heap.size w w':=by
 have hul:=Lib.lt_of_cell hu;have hsl:=Lib.lt_of_cell hs;simp only at hul hsl;obtain⟨⟨nd,nw,nm⟩,nu⟩:=n;unfold Nd.agg Zalz;simp only;have hb:=Zhd ((Yag w.heap.size w).alloc (Yaf _) (.cells #[.int .i64 nd, .string nw, .int .i64 nm, .int .i64 nu] 169));by_cases h1:nu=u
 · have q1:(nu==u)=true:=beq_iff_eq.2 h1;by_cases h2:nw=s
   · have q2:(nw.toList==s.toList)=true:=by rw[h2];exact beq_self_eq_true _
     have HX:Hid ((decide (nu=u)&&decide (nw=s))=true):=by show _=_;rw[Yal h1,Yal h2];rfl
     clear h1 h2;go_enter func151,ntmps151;go_wp2;go_ret;exact⟨by rw[HX.out];rfl,hb.out⟩
   · have q2:(nw.toList==s.toList)=false:=by rw[Yak];exact fun e=>h2 (Prs.bts_same e)
     have HX:Hid ((decide (nu=u)&&decide (nw=s))=false):=by show _=_;rw[Yai h2,Yeo]
     clear h1 h2;go_enter func151,ntmps151;go_wp2;go_ret;exact⟨by rw[HX.out];rfl,hb.out⟩
 · have q1:(nu==u)=false:=Yak.2 h1;have HX:Hid ((decide (nu=u)&&decide (nw=s))=false):=by show _=_;rw[Yai h1,Yfi]
   clear h1;go_enter func151,ntmps151;go_wp2;go_ret;exact⟨by rw[HX.out];rfl,hb.out⟩
theorem Rd.nd {w:World} {A:Option Addr} {L:List Nd} (h:Rd w 4 A L.length (nds L)) {i:Nat} (hi:i<L.length):
 ∃ b o,A=some ⟨b,o,none⟩∧b<w.heap.size∧(⟨b,o,none⟩:Addr).add (i*4)=⟨b,o+i*4,none⟩∧w.cell? ⟨b,o+i*4,none⟩=some (.int .i64 L[i].line.depth)∧w.cell? ⟨b,o+i*4+1,none⟩=some (.string L[i].line.word)∧
   w.cell? ⟨b,o+i*4+2,none⟩=some (.int .i64 L[i].line.mark)∧w.cell? ⟨b,o+i*4+3,none⟩=some (.int .i64 L[i].up):=by
 obtain⟨ad,e,hb,hx⟩:=h.2 (by omega)
 have g:=fun j (hj:j<4)=>Zaqb L i j hi hj
 have h0:=hx (i*4) _ (by have:=g 0 (by omega);simpa[Nd.cells,Line.cells]using this)
 have h1:=hx (i*4+1) _ (by have:=g 1 (by omega);simpa[Nd.cells,Line.cells]using this)
 have h2:=hx (i*4+2) _ (by have:=g 2 (by omega);simpa[Nd.cells,Line.cells]using this)
 have h3:=hx (i*4+3) _ (by have:=g 3 (by omega);simpa[Nd.cells,Line.cells]using this)
 have hs:ad.spot=none:=by
  have h00:=hx 0 _ (by have:=Zaqb L 0 0 (by omega) (by omega);simpa[Nd.cells,Line.cells]using this)
  have h2:=World.cell?_spot h00;have h3:ad.add 0=ad:=by simp[Addr.add]
  rwa [h3]at h2
 obtain⟨b,o,sp⟩:=ad;obtain rfl:sp=none:=hs;rw[Zag]at h0 h1 h2 h3;exact⟨b,o,e,hb,Zag _ _ _,h0,h1,h2,h3⟩
theorem Zakm (A:Option Addr) (c:Nat) (L:List Nd) (pu pw:Nat) (u:Int) (s:ByteArray) (w:World) (hR:Rd w 4 A L.length (nds L)) (hL:L.length≤1000000) (hu:w.cell? ⟨pu,0,none⟩=some (.int .i64 u)) (hs:w.cell? ⟨pw,0,none⟩=some (.string s)):
 Calls prog 184 #[.slice A L.length c, .func (.func 151) #[] #[.pointer (some ⟨pu,0,none⟩), .pointer (some ⟨pw,0,none⟩)]] w fun e w'=>e= .returned (.int .i64 (Zbu (Zalz u s) 0 L))∧Below w.heap.size w w':=by
 have hul:=Lib.lt_of_cell hu;have hsl:=Lib.lt_of_cell hs;simp only at hul hsl;have HF:=Zhd (fun W (hb:Below w.heap.size w W) (n:Nd)=>Zapz n pu pw u s W ((hb.cell (p:=⟨pu,0,none⟩) hul).trans hu) ((hb.cell (p:=⟨pw,0,none⟩) hsl).trans hs))
 have HR:=Zhd hR;obtain⟨f,hf⟩: ∃ f,Zalz u s=f:=⟨_,rfl⟩;rw[hf]at HF⊢;have HQ0:Hid (Zbu f 0 L=Zbu f 0 (L.drop 0)):=rfl;clear hR hu hs hul hsl hf;go_enter func184,ntmps184;go_wp2;go_loopw [8] (fun vi wr=> ∃ k:Nat,k≤L.length∧vi= .int .i64 k∧Hid (Zbu f 0 L=Zbu f k (L.drop k))∧Hid (Below w.heap.size w wr)) (fun vi _=>L.length-(intOf vi).toNat)
 case atStart=>exact⟨0,Yas _,rfl,HQ0,Yag _ _⟩
 case round=>
  clear HQ0;obtain⟨k,hk,rfl,HQ,HB⟩:=hrel;by_cases hlt:k<L.length
  · obtain⟨b,o,rfl,hab,hadd,x0,x1,x2,x3⟩:=(HR.out.below HB.out).nd hlt;have HC:=Zhd (HF.out wr HB.out L[k]);have hst:Hid (Zbu f 0 L=if f L[k]then(k:Int)else Zbu f (k+1) (L.drop (k+1))):=HQ.out.trans (Zagx hlt)
    generalize L[k]=r at *;unfold Nd.agg at HC;clear HQ;cases hf:f r with
    | true=>
      rw[hf]at hst HC;have HK:Hid (Zbu f 0 L=(k:Int)):=by show _=_;rw[hst.out];rfl
      clear hst hf;go_wp2_with fail;refine HC.out.mono ?_;rintro e w2 ⟨rfl,hb2⟩;have HB2:=Zhd (Zaa HB.out hb2);clear HC HB hb2 x0 x1 x2 x3;go_wp2;go_ret;exact⟨Zcb HK.out.symm,HB2.out⟩
    | false=>
      rw[hf]at hst HC;have HK:Hid (Zbu f 0 L=Zbu f (k+1) (L.drop (k+1))):=by show _=_;rw[hst.out];rfl
      clear hst hf;go_wp2_with fail;refine HC.out.mono ?_;rintro e w2 ⟨rfl,hb2⟩;have HB2:=Zhd (Zaa HB.out hb2);clear HC HB hb2 x0 x1 x2 x3;go_wp2_with fail;go_roundw
      case rel=>exact⟨k+1,by omega,by go_num,HK,HB2⟩
      case measure=>simp[intOf];omega
  · have hke:k=L.length:=by omega
    have HK:Hid (Zbu f 0 L= -1):=by
     show _=_;rw[HQ.out,Ybe (by omega)];rfl
    clear HQ;go_wp2;go_ret;exact⟨Zcb HK.out.symm,HB.out⟩
theorem Zxq (A:Option Addr) (c:Nat) (L:List Nd) (pu pw:Nat) (u:Int) (s:ByteArray) (w:World) (hR:Rd w 4 A L.length (nds L)) (hL:L.length≤1000000) (hu:w.cell? ⟨pu,0,none⟩=some (.int .i64 u)) (hs:w.cell? ⟨pw,0,none⟩=some (.string s)):
 Calls prog 150 #[.slice A L.length c, .func (.func 151) #[] #[.pointer (some ⟨pu,0,none⟩), .pointer (some ⟨pw,0,none⟩)]] w fun e w'=>e= .returned (.bool (Zvb L u s))∧Below w.heap.size w w':=by
 have HI:=Zhd (Zakm A c L pu pw u s w hR hL hu hs);have HX:Hid (decide (0≤Zbu (Zalz u s) 0 L)=Zvb L u s):=Zaec _ _ _;clear hR hu hs;generalize Zbu (Zalz u s) 0 L=z at *;go_enter func150,ntmps150;go_wp2_with fail;refine HI.out.mono ?_;rintro e w2 ⟨rfl,hb2⟩;go_wp2;go_ret;exact⟨by rw[←HX.out];rfl,hb2⟩
theorem Zsh (w:World) (n:Nat) (o:Obj):(w.drewN n).alloc o=(w.alloc o).drewN n:=rfl
theorem Zpl (w:World) (n:Nat) (a:Addr) (v:Value):(w.drewN n).setCell a v=(w.setCell a v).drewN n:=rfl
attribute [local go_sem] Zsh Zpl
theorem Zjp (W:World) (T1 T2:TypeId) (a b:Value) (n:Nat):
 Hid ((((W.alloc (.cells #[a] T1)).alloc (.cells #[b] T2)).drewN n).heap[W.heap.size]?=some (.cells #[a] T1 (0,0)))∧Hid ((((W.alloc (.cells #[a] T1)).alloc (.cells #[b] T2)).drewN n).heap[W.heap.size+1]?=some (.cells #[b] T2 (0,0)))∧
 Hid (Below W.heap.size W (((W.alloc (.cells #[a] T1)).alloc (.cells #[b] T2)).drewN n)):=by
 refine⟨?_, ?_,Zao (((Yag _ _).alloc (Yaf _) _).alloc (by simp) _) n⟩
 · show((W.alloc (.cells #[a] T1)).alloc (.cells #[b] T2)).heap[W.heap.size]?=_;rw[Below.heap_alloc _ _ _ (by simp)]
   exact heap_alloc_new W _
 · have:=heap_alloc_new (W.alloc (.cells #[a] T1)) (.cells #[b] T2)
   rwa [show(W.alloc (.cells #[a] T1)).heap.size=W.heap.size+1 by simp]at this
theorem Zda {w:World} {B:Nat} {e:TypeId} {k n:Nat} {v:Value} {xs:List Value} (h:w.ownsRow B e k v (n+1) xs): ∃ q c,v= .slice (some ⟨q,0,none⟩) (n+1) c:=by
 rcases h.2 with⟨-,h0⟩|⟨q,c,_,h1,-⟩
 · omega
 · exact⟨q,c,h1⟩
theorem Zayu {B g:Nat} {en:Int} {p:Pst} {Al:Option Addr} {cl:Nat} {vn vo:Value} {W w7:World} {n:Nd} {v:Value} (h:Psr B g en p Al cl vn vo W) (hown:w7.ownsRow B 169 4 v (p.nodes.length+1) (nds p.nodes++n.cells)) (hb:Below B W w7) (hk:Zbw 169 W w7):
 Psr B g en ⟨p.l,p.nodes++ [n],p.opn⟩ Al cl v vo (w7.setCell ⟨g,2,none⟩ v):=by
 obtain⟨k1,k2,k3,k4,k5,k6,k7⟩:=h
 have ho:w7.ownsRow B 169 4 v (p.nodes++ [n]).length (nds (p.nodes++ [n])):=by
  rw[Zaky,Zbcv,Yae];exact hown
 have hg:=hk g _ _ (by decide) k1
 exact⟨Zpm hg _,k2,k3,k4,(k5.below hb).below ((Yag _ _).setCell (p:=⟨g,2,none⟩) k2 _),Zlv ho hg (by decide) _,Zlv (hk.own (by decide) k7) hg (by decide) _⟩
theorem Zqy {B:Nat} {w:World} (h:B≤w.heap.size) (o:Obj):Below B w (w.alloc o):=(Yag _ _).alloc h o
theorem Zanb {w:World} {g:Nat} {T:TypeId} {v:Value} (h:w.heap[g]?=some (.cells #[v] T (0,0))):w.cell? ⟨g,0,none⟩=some v:=by
 rw[cell_of_row w g 0 _ _ (0,0) h];rfl
theorem Zabm {e:TypeId} {a V b:World} (h:Zbw e V b) (hb:Below a.heap.size a V):Zbw e a b:=(Zbw.of hb).trans h
theorem Zaqa (mark:Int) {p:Pst} {t:Tok} {r:List Tok} (hl:p.l=t::r):nameB mark p=if 16≤p.opn.length then(6,p)
 else if Zvb p.nodes (topB p.opn) t.word=true then(4,p)
 else if 200≤p.nodes.length then(5,p)
 else(0,⟨r,p.nodes++ [⟨⟨p.opn.length,t.word,mark⟩,topB p.opn⟩],p.opn⟩):=by
 unfold nameB;rw[hl]
theorem Zaoz:(prog.info? 169).map (fun i=>(i.zero,i.size,i.bytes))=some (some (.agg #[.int .i64 0, .string ⟨#[]⟩, .int .i64 0, .int .i64 0]),4,40):=by kernel_rfl
theorem Zaxx (e:Nd): ∀ u∈e.cells,u.oneCell'=true:=by
 intro u hu;simp only[Nd.cells,Line.cells,Ybn,Yav,Ybq,or_false]at hu;rcases hu with(rfl|rfl|rfl)|rfl<;>rfl
theorem Zarp (w:World) (T:TypeId) (x:Nd):Rd (w.alloc (.cells #[.int .i64 x.line.depth, .string x.line.word, .int .i64 x.line.mark, .int .i64 x.up] T)) 4 (some ⟨w.heap.size,0,none⟩) 1 x.cells:=by
 refine⟨rfl,fun _=>⟨_,rfl,by simp,fun j u hu=> ?_⟩⟩
 rw[Zag,Ybi,World.cell?_alloc_at _ _ _ _ rfl];have:x.cells= [.int .i64 x.line.depth, .string x.line.word, .int .i64 x.line.mark, .int .i64 x.up]:=rfl;rw[this]at hu;simpa using hu
def Zadd (B g:Nat) (en mark:Int) (p:Pst) (vo:Value) (W:World) (e:Ending) (w':World):Prop:=
 e= .returned (.int .i64 (nameB mark p).1)∧(∃ Al cl vn,Psr B g en (nameB mark p).2 Al cl vn vo w')∧Below B W w'
theorem Zaqz (B g:Nat) (en mark:Int) (p:Pst) (Al:Option Addr) (cl:Nat) (vn vo:Value) (W:World) (h:Psr B g en p Al cl vn vo W) (hBW:B≤W.heap.size) (t:Tok) (r:List Tok) (hl:p.l=t::r) (hn:p.nodes.length≤200):
 Calls prog 116 #[.pointer (some ⟨g,0,none⟩), .int .i64 mark] W (Zadd B g en mark p vo W):=by
 have HP:=Zhd h;have HT:=Zhd (fun W' (hb:Below W.heap.size W W')=>Zbdv B g en p Al cl vn vo W' (h.below hb hBW))
 obtain⟨c0,-,-,-⟩:=h.cells;obtain⟨b,o,rfl,hbB,-,-,x2,-⟩:=h.head hl;have hpos:(0:Int)<(p.l.length:Int):=by rw[hl];simp
 have hgl:=h.lt;have hbl:b<W.heap.size:=by omega
 have HC0:=Zhd (fun W' (hb:Below W.heap.size W W')=>(hb.cell (p:=⟨g,0,none⟩) hgl).trans c0)
 have HC2:=Zhd (fun W' (hb:Below W.heap.size W W')=>(hb.cell (p:=⟨b,o+2,none⟩) hbl).trans x2)
 clear h;unfold Zadd;go_enter func116,ntmps116;go_upto_region 1 with fail
 go_cut [5,6] (fun v5 v6 wx=> ∃ pw pu:Nat,v5= .pointer (some ⟨pw,0,none⟩)∧v6= .pointer (some ⟨pu,0,none⟩)∧Hid (wx.heap[pw]?=some (.cells #[.string t.word] 9 (0,0)))∧Hid (wx.heap[pu]?=some (.cells #[.int .i64 (topB p.opn)] 3 (0,0)))∧Hid (Below W.heap.size W wx))
 case first=>
  go_region_held3 (fun w'=>w'.cell? ⟨g,0,none⟩=some (.slice (some ⟨b,o,none⟩) p.l.length cl)∧w'.cell? ⟨b,o+2,none⟩=some (.string t.word)) (go_keep) ((go_at_call 149;refine(HT.out _ ?hbt).mono ?_;(case hbt=>repeat (first|exact Yag _ _|refine Below.drew ?_|refine Zao ?_ _|refine Below.alloc ?_ (by simp) _));rintro e w5 ⟨rfl,nq,rfl⟩))
  all_goals go_wp2_with fail
  all_goals go_meet
  all_goals first|exact⟨W.heap.size,W.heap.size+1,rfl,rfl,(Zjp _ _ _ _ _ _).1,(Zjp _ _ _ _ _ _).2.1,(Zjp _ _ _ _ _ _).2.2⟩|exact⟨W.heap.size+1,W.heap.size,rfl,rfl,(Zjp _ _ _ _ _ _).2.1,(Zjp _ _ _ _ _ _).1,(Zjp _ _ _ _ _ _).2.2⟩
 case rest =>
  obtain⟨pw,pu,rfl,rfl,HW,HU,HB⟩:=hcut;have hw:=Zanb HW.out;have hu:=Zanb HU.out;have hp:=HP.out.below HB.out hBW;clear HT HC0 HC2 HP c0 x2 hgl hbl;obtain⟨⟨An,cn,rfl⟩,Ao,co,rfl⟩:=hp.slices;obtain⟨c0,-,c2,c3⟩:=hp.cells;have HPc:=Zhd hp;have HX:=Zhd (Zaqa mark hl);clear hp;by_cases h16:16≤p.opn.length
  · have HK:Hid (nameB mark p=(6,p)):=by show _=_;rw[HX.out,Yam h16]
    have g1:(16:Int)≤(p.opn.length:Int):=by omega
    clear HX h16;go_wp2;go_ret;rw[HK.out];exact⟨rfl,⟨_,_,_,HPc.out⟩,HB.out.mono hBW⟩
  · have g1: ¬ (16:Int)≤(p.opn.length:Int):=by omega
    have HRn:=Zhd (Rd.of_own HPc.out.2.2.2.2.2.1);have HC:=Zhd (Zxq An cn p.nodes pu pw (topB p.opn) t.word wc HRn.out (by omega) hu hw)
    have hBc:B≤wc.heap.size:=Yat hBW HB.out.size;have hwl:=Lib.lt_of_cell hw;have hul:=Lib.lt_of_cell hu;simp only at hwl hul;have H16:=Zhd h16;clear h16 HRn;cases htw:Zvb p.nodes (topB p.opn) t.word with
    | true=>
      have HK:Hid (nameB mark p=(4,p)):=by show _=_;rw[HX.out,Yab H16.out,Yam htw]
      rw[htw]at HC;clear HX htw;go_wp2_with fail;refine HC.out.mono ?_;rintro e w6 ⟨rfl,hb6⟩;have HP6:=Zhd (HPc.out.below hb6 hBc);have HB6:=Zhd ((Zaa HB.out hb6).mono hBW);clear hb6 c0 c2 c3 hw hu;go_wp2;go_ret;rw[HK.out];exact⟨rfl,⟨_,_,_,HP6.out⟩,HB6.out⟩
    | false=>
      have HTw:=Zhd htw;rw[htw]at HC;clear htw;go_wp2_with fail;refine HC.out.mono ?_;rintro e w6 ⟨rfl,hb6⟩;have hp6:=HPc.out.below hb6 hBc;have HB6:=Zhd ((Zaa HB.out hb6).mono hBW);have hw6:=(hb6.cell (p:=⟨pw,0,none⟩) hwl).trans hw;have hu6:=(hb6.cell (p:=⟨pu,0,none⟩) hul).trans hu;have hB6:B≤w6.heap.size:=Yat hBc hb6.size;have HW6:=Zhd ((hb6.block pw hwl).trans HW.out);have HU6:=Zhd ((hb6.block pu hul).trans HU.out);clear hb6 c0 c2 c3 hw hu HPc HC HB hwl hul hBc HW HU;obtain⟨c0,-,c2,c3⟩:=hp6.cells;have f2:=hp6.frozen 2;have HP6:=Zhd hp6;clear hp6;by_cases h200:200≤p.nodes.length
      · have HK:Hid (nameB mark p=(5,p)):=by show _=_;rw[HX.out,Yab H16.out,Yab (by rw[HTw.out];simp),Yam h200]
        have g2:(200:Int)≤(p.nodes.length:Int):=by omega
        clear HX h200;go_wp2;go_ret;rw[HK.out];exact⟨rfl,⟨_,_,_,HP6.out⟩,HB6.out⟩
      · have HK:Hid (nameB mark p=(0,⟨r,p.nodes++ [⟨⟨p.opn.length,t.word,mark⟩,topB p.opn⟩],p.opn⟩)):=by show _=_;rw[HX.out,Yab H16.out,Yab (by rw[HTw.out];simp),Yab h200]
        have g2: ¬ (200:Int)≤(p.nodes.length:Int):=by omega
        clear HX h200;obtain⟨i0,hi,hz0,hz1,hz2⟩:=info_parts Zaoz;have hon:=HP6.out.2.2.2.2.2.1;have HON:=Zhd hon;have hnl:p.nodes.length+1≤1000000000:=by omega
        clear hon;have hgl6:=HP6.out.lt
        have hne1: ¬ pw=g:=fun e=>by
         have h1:=HW6.out;rw[e,HP6.out.1]at h1;injection h1 with h1
         injection h1 with _ h2
         exact absurd h2 (by decide)
        have hne2: ¬ pu=g:=fun e=>by
         have h1:=HU6.out;rw[e,HP6.out.1]at h1;injection h1 with h1
         injection h1 with _ h2
         exact absurd h2 (by decide)
        have hne3: ¬ g=pw:=fun e=>hne1 e.symm
        have hne4: ¬ g=pu:=fun e=>hne2 e.symm
        go_upto_region 8 with fail
        go_cut [] (fun wx=>Hid (∃ v,Psr B g en ⟨p.l,p.nodes++ [⟨⟨p.opn.length,t.word,mark⟩,topB p.opn⟩],p.opn⟩ (some ⟨b,o,none⟩) cl v (.slice Ao p.opn.length co) wx)∧Hid (Below B W wx))
        case first=>
         go_region_law ((refine Zme rfl _ _ 124 rfl B _ 169 i0 _ 4 40 underlying124 hi hz0 hz1 hz2 rfl (by decide) (by decide) ((Zai HON.out (Zao (Yag _ _) _)).alloc _) (by simp;omega) (by rfl) (some ⟨w6.heap.size,0,none⟩) 1 1 (Nd.cells ⟨⟨p.opn.length,t.word,mark⟩,topB p.opn⟩) rfl (Zarp _ _ _) (fun h=>by cases h) (Zaxx _) hnl ?_;intro v7 w7 hown7 hb7 hk7;obtain⟨q7,cc7,rfl⟩:=Zda hown7;have HB7:Hid (Below B w6 w7):=Below.trans (by repeat (first|exact Yag _ _|refine Below.drew ?_|refine Zao ?_ _|exact Zqy hB6 _)) hb7;have K7:Hid (Zbw 169 w6 w7):=Zabm hk7 (by repeat (first|exact Yag _ _|refine Below.drew ?_|refine Zao ?_ _|refine Below.alloc ?_ (by simp) _));have HG7:=Zhd (K7.out g _ _ (by decide) HP6.out.1);have f7:=Lib.frozen_of_heap HG7.out 2;have c27:w7.cell? ⟨g,2,none⟩=some (.slice An p.nodes.length cn):=(cell_of_row w7 g 2 _ _ (0,0) HG7.out).trans rfl))
         all_goals go_wp2_with fail
         all_goals go_meet
         all_goals exact⟨⟨_,Zayu HP6.out hown7 HB7.out K7.out⟩,(HB6.out.trans HB7.out).setCell (p:=⟨g,2,none⟩) HP6.out.2.1 _⟩
        case rest=>
         obtain⟨HN,HBw⟩:=hcut;obtain⟨vn2,hN⟩:=HN.out;obtain⟨c0o,-,-,-⟩:=hN.cells;have f0':=hN.frozen 0;obtain⟨b3,o3,e3,hc1,hrc,HP1,HP2⟩:=hN.pop hl;obtain⟨rfl,rfl⟩:b=b3∧o=o3:=by cases e3;exact⟨rfl,rfl⟩
         have hb2:=Zmh HBw.out hN;have hlen:p.l.length=r.length+1:=by rw[hl];rfl
         have c0n:wc.cell? ⟨g,0,none⟩=some (.slice (some ⟨b,o,none⟩) (r.length+1) cl):=by rw[←hlen];exact c0o
         clear c0o hN HN HON HP6 c0 c2 c3 hw6 hu6 hl hlen;by_cases h1:cl=1
         · obtain⟨hr,hp3⟩:=HP1 h1;subst hr;have HP3:=Zhd hp3;have HB3:=Zhd (hb2 (.slice (some ⟨b,o,none⟩) 0 0));have c0e:wc.cell? ⟨g,0,none⟩=some (.slice (some ⟨b,o,none⟩) 1 cl):=c0n;clear c0n;subst h1;clear HP1 HP2 hb2 hp3;go_wp2;go_ret;rw[HK.out];exact⟨rfl,⟨_,_,_,HP3.out⟩,HB3.out⟩
         · have HP3:=Zhd (HP2 h1);have HB3:=Zhd (hb2 (.slice (some ⟨b,o+4,none⟩) r.length (cl-1)));have h1': ¬ (1=cl):=fun e=>h1 e.symm
           have hci:(1:Int)≤(cl:Int):=by omega
           have hcs:(cl:Int)-1=((cl-1:Nat):Int):=by omega
           have hpos2:(0:Int)<(r.length:Int)+1:=by omega
           clear HP1 HP2 hb2;go_wp2;go_ret;rw[HK.out];exact⟨rfl,⟨_,_,_,HP3.out⟩,HB3.out⟩
end Go.Proofs.Zq
