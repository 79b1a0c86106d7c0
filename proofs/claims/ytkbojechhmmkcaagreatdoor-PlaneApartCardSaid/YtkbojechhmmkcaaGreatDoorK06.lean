import Derived.Lib.QuietBelow
import Derived.Test.YtkbojechhmmkcaaGreatDoorK05
set_option linter.unusedVariables false
set_option linter.unusedSimpArgs false
set_option maxHeartbeats 2000000
set_option maxRecDepth 100000
namespace Tre
open Go
def put (la:Nat→ByteArray) (d:Int) (v:ByteArray):Nat→ByteArray:=fun j=>if j=d.toNat then v else la j
def leB (a b:ByteArray):Bool:=Op.bytesLess a.toList b.toList||a.toList==b.toList
def rgOk (d:Int) (la:Nat→ByteArray) (l:Line):Bool:=Zco l&&decide (l.depth≤d+1)&& !(decide (l.depth≤d)&&leB l.word (la l.depth.toNat))
def Zea (d:Int) (la:Nat→ByteArray):List Line→Bool
 | []=>true
 |l::r=>if rgOk d la l then Zea l.depth (put la l.depth l.word) r else false
def Zab (L:List Line):Bool:=decide (L.length≤200)&&Zea (-1) (fun _=>⟨#[]⟩) L
end Tre
namespace Go.Proofs.Zq
open Tryz
open Go Go.RowKit Go.Sort Tre
def Wd (g:Nat) (la:Nat→ByteArray) (W:World):Prop:= ∀ j,j<16→W.cell? ⟨g,j,none⟩=some (.string (la j))∧W.frozen? ⟨g,j,none⟩=false
theorem Zbhr (w:World) (T:TypeId):Wd w.heap.size (fun _=>⟨#[]⟩) (w.alloc (.cells (Array.replicate 16 (.string ⟨#[]⟩)) T)):=by
 intro j hj;refine⟨?_,by simp⟩
 rw[World.cell?_alloc_at _ _ _ _ rfl,Array.getElem?_replicate,Yam hj]
theorem Wd.below {g:Nat} {la:Nat→ByteArray} {W W':World} (h:Wd g la W) (hg:g<W.heap.size) (hb:Below W.heap.size W W'):Wd g la W':=fun j hj=>
 ⟨(hb.cell (p:=⟨g,j,none⟩) hg).trans (h j hj).1,(hb.frozen (p:=⟨g,j,none⟩) hg).trans (h j hj).2⟩
theorem Wd.put {g:Nat} {la:Nat→ByteArray} {W:World} (h:Wd g la W) {d:Int} {q:Nat} (hq:d.toNat=q) (hq16:q<16) (v:ByteArray):Wd g (Tre.put la d v) (W.setCell ⟨g,q,none⟩ (.string v)):=fun j hj=>by
 rw[World.frozen?_setCell];refine⟨?_,(h j hj).2⟩;unfold Tre.put;rw[hq];by_cases e:j=q
 · subst e;rw[Yam rfl];exact World.cell?_setCell_same _ _ _ (h j hj).1
 · rw[Yab e,World.cell?_setCell_other _ _ _ _ (by intro e';simp only[Addr.mk.injEq]at e';omega)]
   exact(h j hj).1
theorem Zbm (A :Option Addr) (cap:Nat) (L:List Line) (w:World) (hR:Rd w 3 A L.length (lines L)) (_hcap:L.length≤cap) (_hc:cap≤maxLen):
 Calls prog 44 #[.slice A L.length cap] w fun e w'=>e= .returned (.bool (Zab L))∧Below w.heap.size w w':=by
 unfold maxLen at _hc;unfold Zab;go_enter func44,ntmps44;by_cases h200:200<L.length
 · have hz:(200:Int)<(L.length:Int):=by omega
   have hd:Hid (decide (L.length≤200)=false):=Yai (by omega)
   go_wp2;go_ret;exact⟨Zah (by rw[hd.out];rfl),Yag _ _⟩
 · have hz : ¬ (200:Int)<(L.length:Int):=by omega
   have hd:Hid (decide (L.length≤200)=true):=Yal (by omega)
   go_wp2;have hWd:Wd w.heap.size (fun _=>⟨#[]⟩) (w.alloc (.cells (Array.replicate 16 (.string ⟨#[]⟩)) 133)):=Zbhr w _
   have hb0:Below w.heap.size w (w.alloc (.cells (Array.replicate 16 (.string ⟨#[]⟩)) 133)):=(Yag _ _).alloc (Yaf _) _;have hl0:w.heap.size<(w.alloc (.cells (Array.replicate 16 (.string ⟨#[]⟩)) 133)).heap.size:=by simp
   change Code.wp _ _ _ _ (w.alloc (.cells (Array.replicate 16 (.string ⟨#[]⟩)) 133));generalize w.alloc (.cells (Array.replicate 16 (.string ⟨#[]⟩)) 133)=w0 at *;have HW:=Zhd hWd;have HB:=Zhd hb0;have HR:=Zhd hR;obtain⟨g,hg⟩: ∃ g,w.heap.size=g:=⟨_,rfl⟩;have HG:Hid (w.heap.size=g):=hg;rw[hg]at HW hl0⊢;clear hWd hb0 hR hg h200;go_loopw [4,12] (fun vd vi wr=> ∃ (k:Nat) (d:Int) (la:Nat→ByteArray),k≤L.length∧vi= .int .i64 k∧vd= .int .i64 d∧ -1≤d∧d≤15∧g<wr.heap.size∧Hid (Zea d la (L.drop k)=Zea (-1) (fun _=>⟨#[]⟩) L)∧Hid (Wd g la wr)∧Hid (Below w.heap.size w wr)) (fun _ vi _=>L.length-(intOf vi).toNat)
   case atStart=>exact⟨0,-1,_,Yas _,rfl,rfl,by omega,by omega,hl0,rfl,HW,HB⟩
   case round =>
    clear HW HB hl0;obtain⟨k,d,la,hk,rfl,rfl,hd0,hd1,hgl,HQ,HW,HB⟩:=hrel;by_cases hlt:k<L.length
    · obtain ⟨B,O,rfl,hab,hadd,x0,x1,x2⟩:=(HR.out.below HB.out).line hlt
      have hst:Hid (Zea (-1) (fun _=>⟨#[]⟩) L=if rgOk d la L[k]then Zea L[k].depth (put la L[k].depth L[k].word) (L.drop (k+1))else false):=by
       show _=_;rw[←HQ.out,Yaz hlt];rfl
      have HOK:Hid (rgOk d la L[k]=(Zco L[k]&&decide (L[k].depth≤d+1)&& !(decide (L[k].depth≤d)&&leB L[k].word (la L[k].depth.toNat)))):=rfl
      have hsd:Hid (Zco L[k]=true→0≤L[k].depth∧L[k].depth<16):=fun h=>by
       unfold Zco at h;simp only[Yaq,Yao]at h;exact⟨h.1.1.1.1,h.1.1.1.2⟩
      have hbb:Below wr.heap.size wr (wr.alloc (.cells #[.int .i64 L[k].depth, .string L[k].word, .int .i64 L[k].mark] 62)):=(Yag _ _).alloc (Yaf _) _;have b0: ∀ m os,(grow (redrawn (wr.alloc (.cells #[.int .i64 L[k].depth, .string L[k].word, .int .i64 L[k].mark] 62)) m) os).cell? ⟨wr.heap.size,0,none⟩=some (.int .i64 L[k].depth):=fun m os=>cell_regrown (by rw[World.cell?_alloc_at _ _ _ _ rfl];rfl) m os
      have b1: ∀ m os,(grow (redrawn (wr.alloc (.cells #[.int .i64 L[k].depth, .string L[k].word, .int .i64 L[k].mark] 62)) m) os).cell? ⟨wr.heap.size,1,none⟩=some (.string L[k].word):=fun m os=>cell_regrown (by rw[World.cell?_alloc_at _ _ _ _ rfl];rfl) m os
      have b2: ∀ m os,(grow (redrawn (wr.alloc (.cells #[.int .i64 L[k].depth, .string L[k].word, .int .i64 L[k].mark] 62)) m) os).cell? ⟨wr.heap.size,2,none⟩=some (.int .i64 L[k].mark):=fun m os=>cell_regrown (by rw[World.cell?_alloc_at _ _ _ _ rfl];rfl) m os
      have hs: ∀ m os,Calls prog 77 #[.agg #[.int .i64 L[k].depth, .string L[k].word, .int .i64 L[k].mark]] (grow (redrawn (wr.alloc (.cells #[.int .i64 L[k].depth, .string L[k].word, .int .i64 L[k].mark] 62)) m) os) fun e w'=>e= .returned (.bool (Zco L[k]))∧ ∃ p:Regrown,w'=grow (redrawn (wr.alloc (.cells #[.int .i64 L[k].depth, .string L[k].word, .int .i64 L[k].mark] 62)) p.d) p.os:=fun m os=>Calls.regrown_of (Zalt L[k] _)
      have hw16:=fun q (hq:q<16) m os=>cell_regrown (((HW.out.below hgl hbb) q hq).1) m os
      have HB1:Hid (Below w.heap.size w (wr.alloc (.cells #[.int .i64 L[k].depth, .string L[k].word, .int .i64 L[k].mark] 62))):=Zaa HB.out hbb;have HW1:=Zhd (HW.out.below hgl hbb);have hgl1:g<(wr.alloc (.cells #[.int .i64 L[k].depth, .string L[k].word, .int .i64 L[k].mark] 62)).heap.size:=by simp;omega
      have HW16:=Zhd hw16;clear hbb hw16 HW HB HQ;generalize L[k]=x at *;go_wp2;generalize wr.alloc (.cells #[.int .i64 x.depth, .string x.word, .int .i64 x.mark] 62)=w2 at *;generalize wr.heap.size=bx at b0 b1 b2⊢;clear x0 x1 x2 hab hadd;by_cases hsb:Zco x=true
      · obtain ⟨xd0,xd1⟩:=hsd.out hsb;by_cases hle:x.depth≤d+1
        · by_cases hld:x.depth≤d
          · obtain⟨q,hq⟩: ∃ q,x.depth.toNat=q:=⟨_,rfl⟩;have hq16:q<16:=by omega
            have hqc:=HW16.out q hq16;rw[hsb]at hs;have HXQ:Hid (x.depth=(q:Int)):=by show _=_;omega
            by_cases hlb:leB x.word (la q)=true
            · have HF:Hid (Zea (-1) (fun _=>⟨#[]⟩) L=false):=by
               show _=_;rw[hst.out,HOK.out,hsb,Yal hle,Yal hld,hq,hlb];rfl
              have hlbv:(Op.bytesLess x.word.toList (la q).toList||x.word.toList==(la q).toList)=true:=hlb
              obtain⟨xd,hxd⟩: ∃ xd,x.depth=xd:=⟨_,rfl⟩;have hxd2:x.depth=xd:=hxd;rw[hxd]at b0 hq xd0 xd1 hle hld hs;have g1:decide (d+1<xd)=false:=Yai (by omega)
              have g2:decide (xd≤d)=true:=Yal hld;have HXD:=Zhd hxd2;clear hxd hxd2 hlb;refine wp_region_quiet_below (by kernel_rfl) (by kernel_rfl) ?_
              repeat (go_big_quiet_step ((go_at_call 77;exact hs _ _)))
              refine wpQuiet_nil ?_;intro _ hw';obtain⟨⟨dq,osq⟩,hw''⟩:=hw';subst hw'';have hgr:=below_regrown w2 dq osq;have HW3:=Zhd (HW1.out.below hgl1 hgr);have HB3:Hid (Below w.heap.size w (grow (redrawn w2 dq) osq)):=Zaa HB1.out hgr;have hgl3:g<(grow (redrawn w2 dq) osq).heap.size:=Ycc hgl1 hgr.size;have z0:(grow (redrawn w2 dq) osq).cell? ⟨bx,0,none⟩=some (.int .i64 xd):=b0 dq osq;have z1:(grow (redrawn w2 dq) osq).cell? ⟨bx,1,none⟩=some (.string x.word):=b1 dq osq;clear b0 b1 b2 hs HW16 HW1 HB1 hgr hgl1;generalize grow (redrawn w2 dq) osq=w3 at *;go_wp2;go_ret;exact⟨Zah (by rw[hd.out,HF.out];rfl),HB3.out⟩
            · have hlf:leB x.word (la q)=false:=by simpa using hlb
              have HT:Hid (Zea x.depth (put la x.depth x.word) (L.drop (k+1))=Zea (-1) (fun _=>⟨#[]⟩) L):=by
               show _=_;rw[hst.out,HOK.out,hsb,Yal hle,Yal hld,hq,hlf];rfl
              have hlbv:(Op.bytesLess x.word.toList (la q).toList||x.word.toList==(la q).toList)=false:=hlf
              obtain⟨xd,hxd⟩: ∃ xd,x.depth=xd:=⟨_,rfl⟩;have hxd2:x.depth=xd:=hxd;rw[hxd]at b0 hq xd0 xd1 hle hld hs;have g1:decide (d+1<xd)=false:=Yai (by omega)
              have g2:decide (xd≤d)=true:=Yal hld;have HXD:=Zhd hxd2;have HXE:Hid (xd=(q:Int)):=by show _=_;omega
              clear hxd hxd2 hlb hlf;refine wp_region_quiet_below (by kernel_rfl) (by kernel_rfl) ?_
              repeat (go_big_quiet_step ((go_at_call 77;exact hs _ _)))
              refine wpQuiet_nil ?_;intro _ hw';obtain⟨⟨dq,osq⟩,hw''⟩:=hw';subst hw'';have hgr:=below_regrown w2 dq osq;have HW3:=Zhd (HW1.out.below hgl1 hgr);have HB3:Hid (Below w.heap.size w (grow (redrawn w2 dq) osq)):=Zaa HB1.out hgr;have hgl3:g<(grow (redrawn w2 dq) osq).heap.size:=Ycc hgl1 hgr.size;have z0:(grow (redrawn w2 dq) osq).cell? ⟨bx,0,none⟩=some (.int .i64 xd):=b0 dq osq;have z1:(grow (redrawn w2 dq) osq).cell? ⟨bx,1,none⟩=some (.string x.word):=b1 dq osq;clear b0 b1 b2 hs HW16 HW1 HB1 hgr hgl1;generalize grow (redrawn w2 dq) osq=w3 at *;have cq:=(HW3.out q hq16).1;have fq:=(HW3.out q hq16).2;have HWP:=Zhd (HW3.out.put (d:=x.depth) (by rw[HXQ.out];rfl) hq16 x.word)
              have HBP:Hid (Below w.heap.size w (w3.setCell ⟨g,q,none⟩ (.string x.word))):=HB3.out.setCell (by show w.heap.size≤g;rw[HG.out];omega) _
              have hgp:g<(w3.setCell ⟨g,q,none⟩ (.string x.word)).heap.size:=by simpa using hgl3
              clear HW3 HB3;go_wp2;go_roundw
              case rel=>exact⟨k+1,x.depth,_,by omega,by go_num,by rw[HXD.out],by have:=HXD.out;omega,by have:=HXD.out;omega,hgp,HT,HWP,HBP⟩
              case measure=>simp[intOf];omega
          · obtain⟨q,hq⟩: ∃ q,x.depth.toNat=q:=⟨_,rfl⟩;have hq16:q<16:=by omega
            rw[hsb]at hs;have HXQ:Hid (x.depth=(q:Int)):=by show _=_;omega
            have HT:Hid (Zea x.depth (put la x.depth x.word) (L.drop (k+1))=Zea (-1) (fun _=>⟨#[]⟩) L):=by
             show _=_;rw[hst.out,HOK.out,hsb,Yal hle,Yai hld];rfl
            obtain⟨xd,hxd⟩: ∃ xd,x.depth=xd:=⟨_,rfl⟩;have hxd2:x.depth=xd:=hxd;rw[hxd]at b0 hq xd0 xd1 hle hld hs;have g1:decide (d+1<xd)=false:=Yai (by omega)
            have g2:decide (xd≤d)=false:=Yai hld;have HXD:=Zhd hxd2;have HXE:Hid (xd=(q:Int)):=by show _=_;omega
            clear hxd hxd2;refine wp_region_quiet_below (by kernel_rfl) (by kernel_rfl) ?_
            repeat (go_big_quiet_step ((go_at_call 77;exact hs _ _)))
            refine wpQuiet_nil ?_;intro _ hw';obtain⟨⟨dq,osq⟩,hw''⟩:=hw';subst hw'';have hgr:=below_regrown w2 dq osq;have HW3:=Zhd (HW1.out.below hgl1 hgr);have HB3:Hid (Below w.heap.size w (grow (redrawn w2 dq) osq)):=Zaa HB1.out hgr;have hgl3:g<(grow (redrawn w2 dq) osq).heap.size:=Ycc hgl1 hgr.size;have z0:(grow (redrawn w2 dq) osq).cell? ⟨bx,0,none⟩=some (.int .i64 xd):=b0 dq osq;have z1:(grow (redrawn w2 dq) osq).cell? ⟨bx,1,none⟩=some (.string x.word):=b1 dq osq;clear b0 b1 b2 hs HW16 HW1 HB1 hgr hgl1;generalize grow (redrawn w2 dq) osq=w3 at *;have cq:=(HW3.out q hq16).1;have fq:=(HW3.out q hq16).2;have HWP:=Zhd (HW3.out.put (d:=x.depth) (by rw[HXQ.out];rfl) hq16 x.word)
            have HBP:Hid (Below w.heap.size w (w3.setCell ⟨g,q,none⟩ (.string x.word))):=HB3.out.setCell (by show w.heap.size≤g;rw[HG.out];omega) _
            have hgp:g<(w3.setCell ⟨g,q,none⟩ (.string x.word)).heap.size:=by simpa using hgl3
            clear HW3 HB3;go_wp2;go_roundw
            case rel=>exact⟨k+1,x.depth,_,by omega,by go_num,by rw[HXD.out],by have:=HXD.out;omega,by have:=HXD.out;omega,hgp,HT,HWP,HBP⟩
            case measure=>simp[intOf];omega
        · rw[hsb]at hs
          have HF:Hid (Zea (-1) (fun _=>⟨#[]⟩) L=false):=by
           show _=_;rw[hst.out,HOK.out,hsb,Yai hle];rfl
          obtain⟨xd,hxd⟩: ∃ xd,x.depth=xd:=⟨_,rfl⟩;rw[hxd]at b0 xd0 xd1 hle hs;have g1:decide (d+1<xd)=true:=Yal (by omega)
          clear hxd;refine wp_region_quiet_below (by kernel_rfl) (by kernel_rfl) ?_
          repeat (go_big_quiet_step ((go_at_call 77;exact hs _ _)))
          refine wpQuiet_nil ?_;intro _ hw';obtain⟨⟨dq,osq⟩,hw''⟩:=hw';subst hw'';have hgr:=below_regrown w2 dq osq;have HW3:=Zhd (HW1.out.below hgl1 hgr);have HB3:Hid (Below w.heap.size w (grow (redrawn w2 dq) osq)):=Zaa HB1.out hgr;have hgl3:g<(grow (redrawn w2 dq) osq).heap.size:=Ycc hgl1 hgr.size;have z0:(grow (redrawn w2 dq) osq).cell? ⟨bx,0,none⟩=some (.int .i64 xd):=b0 dq osq;have z1:(grow (redrawn w2 dq) osq).cell? ⟨bx,1,none⟩=some (.string x.word):=b1 dq osq;clear b0 b1 b2 hs HW16 HW1 HB1 hgr hgl1;generalize grow (redrawn w2 dq) osq=w3 at *;go_wp2;go_ret;exact⟨Zah (by rw[hd.out,HF.out];rfl),HB3.out⟩
      · have hsf:Zco x=false:=by simpa using hsb
        rw[hsf]at hs
        have HF:Hid (Zea (-1) (fun _=>⟨#[]⟩) L=false):=by
         show _=_;rw[hst.out,HOK.out,hsf];rfl
        refine wp_region_quiet_below (by kernel_rfl) (by kernel_rfl) ?_
        repeat (go_big_quiet_step ((go_at_call 77;exact hs _ _)))
        refine wpQuiet_nil ?_;intro _ hw';obtain⟨⟨dq,osq⟩,hw''⟩:=hw';subst hw'';have hgr:=below_regrown w2 dq osq;have HW3:=Zhd (HW1.out.below hgl1 hgr);have HB3:Hid (Below w.heap.size w (grow (redrawn w2 dq) osq)):=Zaa HB1.out hgr;have hgl3:g<(grow (redrawn w2 dq) osq).heap.size:=Ycc hgl1 hgr.size;have z0:(grow (redrawn w2 dq) osq).cell? ⟨bx,0,none⟩=some (.int .i64 x.depth):=b0 dq osq;have z1:(grow (redrawn w2 dq) osq).cell? ⟨bx,1,none⟩=some (.string x.word):=b1 dq osq;clear b0 b1 b2 hs HW16 HW1 HB1 hgr hgl1;generalize grow (redrawn w2 dq) osq=w3 at *;go_wp2;go_ret;exact⟨Zah (by rw[hd.out,HF.out];rfl),HB3.out⟩
    · obtain rfl:k=L.length:=by omega
      have HF:Hid (Zea (-1) (fun _=>⟨#[]⟩) L=true):=by
       show _=_;rw[←HQ.out,Ydo];rfl
      go_wp2;go_ret;exact⟨Zah (by rw[hd.out,HF.out];rfl),HB.out⟩
end Go.Proofs.Zq
namespace Tre
open Go
def Zgj (L:List Line) (i:Int):Bool:=decide (0≤i)&&decide (i<(L.length:Int))&&Zab L
def Zaj (L:List Line) (i:Nat):Int:=match L[i]? with|some l=>l.depth|none=>0
theorem Zaq {L:List Line} {i:Nat} (h:i<L.length):Zaj L i=L[i].depth:=by unfold Zaj;rw[Yaj h]
def Zbc (L:List Line) (D:Int):Nat→Int
 |0=> -1
 |k+1=>if D≤Zaj L k then Zbc L D k else(k:Int)
def Zdd (L:List Line) (i:Nat):Int:=Zbc L (Zaj L i) i
def Zcp (L:List Line) (D:Int) (k:Nat):Nat:=k+((L.drop k).takeWhile fun l=>decide (D<l.depth)).length
def endB (L:List Line) (i:Nat):Nat:=Zcp L (Zaj L i) (i+1)
theorem Zlg {L:List Line} {D:Int} {k:Nat} (h:k<L.length) (hd:D<L[k].depth):Zcp L D k=Zcp L D (k+1):=by
 unfold Zcp;rw[Yaz h,List.takeWhile_cons,Yal hd];simp;omega
theorem Zlh {L:List Line} {D:Int} {k:Nat} (h:k<L.length) (hd: ¬ D<L[k].depth):Zcp L D k=k:=by
 unfold Zcp;rw[Yaz h,List.takeWhile_cons,Yai hd];simp
theorem Zno {L:List Line} {D:Int}:Zcp L D L.length=L.length:=by unfold Zcp;simp
theorem Zajw (L:List Line) (D:Int) (k:Nat) (hk:k≤L.length):k≤Zcp L D k∧Zcp L D k≤L.length:=by
 unfold Zcp;have h1:=(List.takeWhile_prefix (l:=L.drop k) (fun l=>decide (D<l.depth))).length_le
 rw[Yan]at h1;omega
theorem Zrk (L:List Line) (D:Int): ∀ k:Nat,-1≤Zbc L D k∧Zbc L D k<(k:Int)
 |0=>by unfold Zbc;omega
 | k+1=>by
   unfold Zbc;have:=Zrk L D k;split<;>omega
end Tre
namespace Go.Proofs.Zq
open Tryz
open Go Go.RowKit Go.Sort Tre
theorem Zhr (A:Option Addr) (cap:Nat) (L:List Line) (i:Int) (w:World) (hR:Rd w 3 A L.length (lines L)) (hcap:L.length≤cap) (hc:cap≤maxLen):
 Calls prog 78 #[.slice A L.length cap, .int .i64 i] w fun e w'=>e= .returned (.bool (Zgj L i))∧Below w.heap.size w w':=by
 have HC:=Zhd (Zbm A cap L w hR hcap hc);have HX:Hid (Zgj L i=(decide (0≤i)&&decide (i<(L.length:Int))&&Zab L)):=rfl;unfold maxLen at hc;go_enter func78,ntmps78;by_cases h0:0≤i
 · by_cases h1:i<(L.length:Int)
   · have HR:Hid (Zgj L i=Zab L):=by show _=_;rw[HX.out,Yal h0,Yal h1];rfl
     clear HX;go_wp2_with fail;refine HC.out.mono ?_;rintro e w1 ⟨rfl,hb1⟩;generalize Zab L=r at *;go_wp2
     all_goals
      go_ret;exact⟨Zah HR.out.symm,hb1⟩
   · have HR:Hid (Zgj L i=false):=by show _=_;rw[HX.out,Yai h1,Yeo];rfl
     clear HX HC;go_wp2
     all_goals
      go_ret;exact⟨Zah HR.out.symm,Yag _ _⟩
 · have HR:Hid (Zgj L i=false):=by show _=_;rw[HX.out,Yai h0];rfl
   clear HX HC;go_wp2
   all_goals
    go_ret;exact⟨Zah HR.out.symm,Yag _ _⟩
theorem Zvd (A:Option Addr) (cap:Nat) (L:List Line) (i:Int) (w:World) (hR:Rd w 3 A L.length (lines L)) (hcap:L.length≤cap) (hc:cap≤maxLen):
 Calls prog 79 #[.slice A L.length cap, .int .i64 i] w fun e w'=>e= .returned (.int .i64 (if Zgj L i then Zdd L i.toNat else -1))∧Below w.heap.size w w':=by
 have HC:=Zhd (Zhr A cap L i w hR hcap hc)
 have HT:Hid (Zgj L i=true→0≤i∧i<(L.length:Int)):=fun h=>by
  unfold Zgj at h;simp only[Yaq,Yao]at h;exact h.1
 have HR:=Zhd hR;unfold maxLen at hc;clear hR;go_enter func79,ntmps79;go_wp2_with fail;refine HC.out.mono ?_;rintro e w1 ⟨rfl,hb1⟩;have HB1:=Zhd hb1;have HR1:=Zhd (HR.out.below hb1);clear hb1 HR HC;cases ht:Zgj L i with
 | false=>
   have ht2: ¬ Zgj L i=true:=by rw[ht];decide
   go_wp2;go_ret;exact⟨by first|rfl|simp,HB1.out⟩
 | true =>
   obtain⟨h0,h1⟩:=HT.out (by first|rfl|exact ht)
   obtain⟨n,rfl⟩:=Yci h0;have hn:n<L.length:=by omega
   clear HT h0 h1;obtain⟨B,O,rfl,hab,hadd,x0,x1,x2⟩:=HR1.out.line hn;have hDn:Hid (Zaj L n=L[n].depth):=Zaq hn;obtain⟨D,hD⟩: ∃ D,L[n].depth=D:=⟨_,rfl⟩;rw[hD]at x0;have hDD:Hid (Zaj L n=D):=hDn.out.trans hD;clear hD hDn x1 x2;go_wp2;go_loopw [5] (fun vk wr=> ∃ (k:Nat) (z:Int),vk= .int .i64 z∧z+1=(k:Int)∧k≤n+1∧Hid (Zbc L D k=Zbc L D n)∧ ∃ q,wr=w1.drewN q) (fun vk _=>(intOf vk+1).toNat)
   case atStart=>
    refine⟨n+1,n,rfl,by omega,by omega,(show Zbc L D (n+1)=Zbc L D n from ?_),0,rfl⟩
    conv=>lhs;unfold Zbc
    rw[hDD.out,Yam (Int.le_refl _)]
   case round=>
    obtain⟨k,z,rfl,hzk,hk,HQ,q,rfl⟩:=hrel;have hU:Hid (Zdd L n=Zbc L D n):=by show _=_;unfold Zdd;rw[hDD.out]
    by_cases hk0:k=0
    · have hz:z= -1:=by omega
      subst hz
      have HF:Hid (Zdd L n= -1):=by
       show _=_;rw[hU.out,←HQ.out,hk0,Zbc]
      clear HQ hU hzk;go_wp2_with fail;go_quiet (fail);go_wp2;go_ret;exact⟨Zcb (by simp[HF.out]),below_drewN HB1.out _⟩
    · obtain⟨p,rfl⟩: ∃ p,k=p+1:=⟨k-1,by omega⟩
      obtain rfl:z=(p:Int):=by omega
      have hpl:p<L.length:=by omega
      obtain⟨B',O',hA',-,hadd',y0,-,-⟩:=HR1.out.line hpl;injection hA' with hA'
      injection hA' with hBB hOO
      subst hBB hOO
      have hst:Hid (Zbc L D (p+1)=if D≤L[p].depth then Zbc L D p else(p:Int)):=by
       show _=_;rw[←Zaq hpl];rfl
      generalize L[p].depth=E at *;have hp0:(0:Int)≤(p:Int):=by omega
      by_cases hDE:D≤E
      · have HQ2:Hid (Zbc L D p=Zbc L D n):=by show _=_;rw[←HQ.out,hst.out,Yam hDE]
        have hdd:decide (D≤E)=true:=Yal hDE;clear HQ hst hU;go_wp2_with fail;go_quiet (fail);go_wp2;go_roundw
        case rel=>exact⟨p,(p:Int)-1,rfl,by omega,by omega,HQ2,_,rfl⟩
        case measure=>simp[intOf]
      · have HF:Hid (Zdd L n=(p:Int)):=by
         show _=_;rw[hU.out,←HQ.out,hst.out,Yab hDE]
        have hdd:decide (D≤E)=false:=Yai hDE;clear HQ hst hU;go_wp2_with fail;go_quiet (fail);go_wp2;go_ret;exact⟨Zcb (by simp[HF.out]),below_drewN HB1.out _⟩
theorem Zsz (A:Option Addr) (cap:Nat) (L:List Line) (i:Int) (w:World) (hR:Rd w 3 A L.length (lines L)) (hcap:L.length≤cap) (hc:cap≤maxLen):
 Calls prog 62 #[.slice A L.length cap, .int .i64 i] w fun e w'=>e= .returned (.int .i64 (if Zgj L i then((endB L i.toNat:Nat):Int)else 0))∧Below w.heap.size w w':=by
 have HC:=Zhd (Zhr A cap L i w hR hcap hc)
 have HT:Hid (Zgj L i=true→0≤i∧i<(L.length:Int)):=fun h=>by
  unfold Zgj at h;simp only[Yaq,Yao]at h;exact h.1
 have HR:=Zhd hR;unfold maxLen at hc;clear hR;go_enter func62,ntmps62;go_wp2_with fail;refine HC.out.mono ?_;rintro e w1 ⟨rfl,hb1⟩;have HB1:=Zhd hb1;have HR1:=Zhd (HR.out.below hb1);clear hb1 HR HC;cases ht:Zgj L i with
 | false=>
   have ht2: ¬ Zgj L i=true:=by rw[ht];decide
   go_wp2;go_ret;exact⟨by first|rfl|simp,HB1.out⟩
 | true =>
   obtain⟨h0,h1⟩:=HT.out (by first|rfl|exact ht)
   obtain⟨n,rfl⟩:=Yci h0;have hn:n<L.length:=by omega
   clear HT h0 h1;obtain⟨B,O,rfl,hab,hadd,x0,x1,x2⟩:=HR1.out.line hn;have hDn:Hid (Zaj L n=L[n].depth):=Zaq hn;obtain⟨D,hD⟩: ∃ D,L[n].depth=D:=⟨_,rfl⟩;rw[hD]at x0;have hDD:Hid (endB L n=Zcp L D (n+1)):=by show _=_;unfold endB;rw[hDn.out,hD]
   clear hD hDn x1 x2;go_wp2;go_loopw [5] (fun vk wr=> ∃ k:Nat,vk= .int .i64 k∧n<k∧k≤L.length∧Hid (Zcp L D (n+1)=Zcp L D k)∧ ∃ q,wr=w1.drewN q) (fun vk _=>L.length-(intOf vk).toNat)
   case atStart=>exact⟨n+1,by go_num,by omega,by omega,rfl,0,rfl⟩
   case round=>
    obtain⟨k,rfl,hnk,hk,HQ,q,rfl⟩:=hrel;by_cases hlt:k<L.length
    · obtain⟨B',O',hA',-,hadd',y0,-,-⟩:=HR1.out.line hlt;injection hA' with hA'
      injection hA' with hBB hOO
      subst hBB hOO;have hgo:Hid (D<L[k].depth→Zcp L D (n+1)=Zcp L D (k+1)):=fun hd=>HQ.out.trans (Zlg hlt hd)
      have hno:Hid (¬ D<L[k].depth→endB L n=k):=fun hd=>hDD.out.trans (HQ.out.trans (Zlh hlt hd))
      generalize L[k].depth=E at *;by_cases hDE:D<E
      · have HQ2:=Zhd (hgo.out hDE);have hdd:decide (D<E)=true:=Yal hDE;clear HQ hgo hno hDD;go_wp2_with fail;go_quiet (fail);go_wp2;go_roundw
        case rel=>exact⟨k+1,by go_num,by omega,by omega,HQ2,_,rfl⟩
        case measure=>simp[intOf];omega
      · have HF:=Zhd (hno.out hDE);have hdd:decide (D<E)=false:=Yai hDE;clear HQ hgo hno hDD;go_wp2_with fail;go_quiet (fail);go_wp2;go_ret;exact⟨Zcb (by simp[HF.out]),below_drewN HB1.out _⟩
    · obtain rfl:k=L.length:=by omega
      have HF:Hid (endB L n=L.length):=hDD.out.trans (HQ.out.trans Zno);have hdd:decide ((L.length:Int)<(L.length:Int))=false:=Yai (by omega)
      clear HQ hDD;go_wp2_with fail;go_quiet (fail);go_wp2;go_ret;exact⟨Zcb (by simp[HF.out]),below_drewN HB1.out _⟩
end Go.Proofs.Zq
namespace Tre
open Go
def Zbd (L:List Line) (i:Nat):ByteArray:=match L[i]? with|some l=>l.word|none=>⟨#[]⟩
theorem Zbe {L:List Line} {i:Nat} (h:i<L.length):Zbd L i=L[i].word:=by unfold Zbd;rw[Yaj h]
def upsF (L:List Line):Nat→Nat→List ByteArray
 |0,_=> []
 |_+1,0=> []
 |f+1,k+1=>Zbd L k::upsF L f (Zdd L k+1).toNat
theorem Zhs (L:List Line) (k:Nat): -1≤Zdd L k∧Zdd L k<(k:Int):=Zrk L _ k
theorem Zve (L:List Line): ∀ f k,k≤f→upsF L f k=upsF L k k
 |0,0,_=>rfl
 |f+1,0,_=>rfl
 | f+1,k+1,h=>by
   have hu:=Zhs L k;show _::_=_::_;rw[Zve L f _ (by omega),Zve L k _ (by omega)]
termination_by f k=>f+k
def ups (L:List Line) (k:Nat):List ByteArray:=upsF L k k
theorem Zpv (L:List Line):ups L 0= []:=rfl
theorem Zkk (L:List Line) (k:Nat):ups L (k+1)=Zbd L k::ups L (Zdd L k+1).toNat:=by
 have hu:=Zhs L k;show _::_=_;unfold ups;rw[Zve L k _ (by omega)]
theorem Zatd (L:List Line): ∀ k,(ups L k).length≤k
 |0=>by rw[Zpv];simp
 | k+1=>by
   have hu:=Zhs L k;rw[Zkk,Ybd];have:=Zatd L (Zdd L k+1).toNat;omega
def Zdg (L:List Line) (i:Nat):List ByteArray:=(ups L (i+1)).reverse
theorem Zaca (L:List Line) (i:Nat):(Zdg L i).length≤i+1:=by unfold Zdg;rw[Ydu];exact Zatd L _
theorem Zaqt (L:List Line) (i:Nat) (h:Zdd L i= -1):Zdg L i= [Zbd L i]:=by unfold Zdg;rw[Zkk,h];rfl
theorem Zaqs (L:List Line) (i j:Nat) (h:Zdd L i=(j:Int)):Zdg L i=Zdg L j++ [Zbd L i]:=by
 unfold Zdg;rw[Zkk,h,List.reverse_cons];rfl
def sv (P:List ByteArray):List Value:=P.map Value.string
theorem Zie (P:List ByteArray):(sv P).length=P.length:=by unfold sv;simp
theorem Zks {P:List ByteArray} {j:Nat} (h:j<P.length):(sv P)[j]?=some (.string P[j]):=by unfold sv;simp[h]
theorem Zbau (P Q:List ByteArray):sv (P++Q)=sv P++sv Q:=by unfold sv;simp
theorem Zbhg (P:List ByteArray): ∀ u∈sv P,u.oneCell'=true:=by
 unfold sv;intro u hu;obtain⟨l,_,rfl⟩:=Yct.1 hu;rfl
end Tre
namespace Go.Proofs.Zq
open Tryz
open Go Go.RowKit Go.Sort Tre
def Zd (A:Option Addr):Prop:= ∀ ad,A=some ad→ ∃ g,ad=⟨g,0,none⟩
theorem Zati:Zd none:=fun _ h=>by cases h
theorem Zatj (g:Nat):Zd (some ⟨g,0,none⟩):=fun ad h=>by cases h;exact⟨g,rfl⟩
def Zxc (w:World) (P:List ByteArray) (e:Ending) (w':World):Prop:=
 ∃ A c,e= .returned (.tuple #[.slice A P.length c, .int .i64 0])∧P.length≤c∧c≤maxLen∧Rd w' 1 A P.length (sv P)∧Zd A∧Below w.heap.size w w'
theorem Zgh {w:World} {base:Nat} {T:TypeId} {v:Value} {l:List ByteArray} {k:ByteArray} (h:w.ownsRow base T 1 v (l.length+1) (sv l++ [.string k])):w.ownsRow base T 1 v (l++ [k]).length (sv (l++ [k])):=by
 unfold sv at *;simpa using h
theorem Rd.strAt {w:World} {A:Option Addr} {P:List ByteArray} (h:Rd w 1 A P.length (sv P)) {i:Nat} (hi:i<P.length):
 ∃ B O,A=some ⟨B,O,none⟩∧B<w.heap.size∧(⟨B,O,none⟩:Addr).add i=⟨B,O+i,none⟩∧w.cell? ⟨B,O+i,none⟩=some (.string P[i]):=by
 obtain⟨ad,e,hb,hx⟩:=h.2 (by omega)
 have h0:=hx i _ (Zks hi);have hs:ad.spot=none:=by
  have h00:=hx 0 _ (Zks (by omega:0<P.length))
  exact World.cell?_spot h00
 obtain⟨B,O,sp⟩:=ad;obtain rfl:sp=none:=hs;rw[Zag]at h0;exact⟨B,O,e,hb,Zag _ _ _,h0⟩
theorem Zut (l:List ByteArray):((Lib.strsOf (fun i=>l.getD i ByteArray.empty) l.length).reverse.map encStr)=sv l.reverse:=by
 have:Lib.strsOf (fun i=>l.getD i ByteArray.empty) l.length=l.map (·.data.toList):=by
  unfold Lib.strsOf;refine List.ext_getElem (by simp) fun i h1 h2=> ?_
  have hi:i<l.length:=by simpa using h2
  simp[hi]
 rw[this,←List.map_reverse,Yes];unfold sv;refine Yeg fun s _=> ?_
 show Value.string ⟨s.data.toList.toArray⟩=_;rw[mk_data]
theorem Zjs {B:Nat} {a:World} (b:Nat) (hb:B≤b): ∀ (vs:List Value) (o:Nat) {w:World},Below B a w→Below B a (w.setCells b o vs)
 | [],_,_,h=>h
 |v::r,o,_,h=>Zjs b hb r (o+1) (h.setCell (p:=⟨b,o,none⟩) hb v)
theorem Zafe {w w1:World} {v:Value} {l:List ByteArray} (hown:w1.ownsRow w.heap.size 9 1 v l.length (sv l)) (hb:Below w.heap.size w w1) (hl:l.length≤100000):
 Calls prog 80 #[v] w1 fun e w'=>e= .returned (.tuple #[])∧ ∃ A c,v= .slice A l.length c∧l.length≤c∧c≤maxLen∧Rd w' 1 A l.length (sv l.reverse)∧Zd A∧Below w.heap.size w w':=by
 rcases hown.2 with⟨rfl,h0⟩|⟨g,c,cur,rfl,hg,hh,hnc,hcm,hsz,ht⟩
 · obtain rfl:l= []:=Yde.1 h0;refine(Tryz.slices_Reverse_string_empty none 0 w1).mono ?_;rintro e w' ⟨rfl,rfl⟩;exact⟨rfl,none,0,rfl,Yaf _,by unfold maxLen;omega,Rd.nil,Zati,hb⟩
 · refine(Tryz.slices_Reverse_string_cells g 0 l.length c (fun i=>l.getD i ByteArray.empty) w1 (by omega) (fun i hi=> ?_) (fun j hj=>hown.frozenAt _)).mono ?_
   · rw[Ybi,hown.cellAt i (by omega),Zks hi];simp[hi]
   · rintro e w' ⟨rfl,q,rfl⟩;rw[Zut];have hlt:=(hown.lt g rfl).2;have hb2:Below w.heap.size w ((w1.drewN q).setCells g 0 (sv l.reverse)):=Zjs g hg _ _ (below_drewN hb q);refine⟨rfl,_,c,rfl,hnc,hcm,⟨by rw[Zie];simp,fun hn=>⟨_,rfl, ?_,fun j u hu=> ?_⟩⟩,Zatj g,hb2⟩
     · exact Ycc hlt (Zjs (B:=0) (a:=w1) g (Yas _) (sv l.reverse) 0 (w:=w1.drewN q) (below_drewN ((Yag _ _)) q)).size
     · have hj:j<l.length:=by have:=(Ybb.1 hu).1;rw[Zie]at this;simpa using this
       rw[Zag]
       have:=World.cell?_setCells_in g (sv l.reverse) 0 (w1.drewN q) (fun i hi=>by
        have hi':i<l.length:=by rw[Zie]at hi;simpa using hi
        show(w1.cell? _).isSome=true;rw[Ybi,hown.cellAt i (by omega),Zks hi'];rfl) j (by rw[Zie];simpa using hj)
       rw[this,←hu];exact(Yaj _).symm
theorem Zgk {L:List Line} {n:Nat} (h:Zab L=true) (hn:n<L.length):Zgj L (n:Int)=true:=by
 unfold Zgj;rw[h,Yal (by omega),Yal (by omega)];rfl
theorem Zau {L:List Line} (h:Zab L=true):L.length≤200:=by
 unfold Zab at h;simp only[Yaq,Yao]at h;exact h.1
theorem Zwl (A:Option Addr) (cap:Nat) (L:List Line) (n:Nat) (w:World) (hR:Rd w 3 A L.length (lines L)) (hcap:L.length≤cap) (hc:cap≤maxLen) (hr:Zab L=true) (hn:n<L.length):
 Calls prog 46 #[.slice A L.length cap, .int .i64 n] w (Zxc w (Zdg L n)):=by
 obtain⟨i0,hi,hz0,hz1,hz2⟩:=info_parts Zei;have HC:=Zhd (Zhr A cap L n w hR hcap hc)
 have HU:Hid (∀ (k:Nat) W,Below w.heap.size w W→k<L.length→Calls prog 79 #[.slice A L.length cap, .int .i64 k] W fun e w'=>e= .returned (.int .i64 (Zdd L k))∧Below W.heap.size W w'):=fun k W hb hk=>by
  have:=Zvd A cap L k W (hR.below hb) hcap hc;rw[Zgk hr hk]at this;simpa using this
 have hth:=Zgk hr hn;have h200:=Zau hr;have HR:=Zhd hR;unfold maxLen at hc;clear hR hr;go_enter func46,ntmps46;go_wp2_with fail;refine HC.out.mono ?_;rintro e w1 ⟨rfl,hb1⟩;clear HC;rw[hth];go_wp2;go_loopw [6,7] (fun v vk wr=> ∃ (k:Nat) (z:Int) (O:List ByteArray),vk= .int .i64 z∧z+1=(k:Int)∧k≤n+1∧Hid (O++ups L k=ups L (n+1))∧O.length+k≤n+1∧wr.ownsRow w.heap.size 9 1 v O.length (sv O)∧Below w.heap.size w wr) (fun _ vk _=>(intOf vk+1).toNat)
 case atStart=>exact⟨n+1,n,[],rfl,by omega,by omega,rfl,by simp,World.ownsRow_nil _ _ _ _,hb1⟩
 case round=>
  clear hb1;obtain⟨k,z,O,rfl,hzk,hk,HQ,hO,hown,hb⟩:=hrel;by_cases hk0:k=0
  · have hz:z= -1:=by omega
    subst hz
    have HF:Hid (O=ups L (n+1)):=by
     show _=_;rw[←HQ.out,hk0,Zpv,Ybg]
    have HV:=Zhd (Zafe hown hb (by omega))
    have HL:Hid (O.reverse=Zdg L n):=by show _=_;rw[HF.out];rfl
    clear HQ hzk HU HR HF;go_wp2_with fail;refine HV.out.mono ?_;rintro e w3 ⟨rfl,A',c,rfl,hlc,hcm,hRd,hzd,hb3⟩
    have K:Hid (Zxc w (Zdg L n) (.returned (.tuple #[.slice A' O.length c, .int .i64 0])) w3):=by
     rw[←HL.out];exact⟨A',c,by rw[Ydu],by rw[Ydu];exact hlc,hcm,by rw[Ydu];exact hRd,hzd,hb3⟩
    clear HV hown hb hlc hcm hRd hzd hb3 HL;go_wp2;exact bodyPost_ret (v:= .tuple #[.slice A' O.length c, .int .i64 0]) (by simp[results,results46,go_sem]) rfl K.out
  · obtain⟨p,rfl⟩: ∃ p,k=p+1:=⟨k-1,by omega⟩
    obtain rfl:z=(p:Int):=by omega
    have hpl:p<L.length:=by omega
    obtain⟨B,Of,rfl,hab,hadd,-,x1,-⟩:=(HR.out.below hb).line hpl
    have hst:Hid (ups L (p+1)=L[p].word::ups L (Zdd L p+1).toNat):=by
     show _=_;rw[Zkk,Zbe hpl]
    have hul:=Zhs L p;have HUp:=Zhd (fun W hb=>HU.out p W hb hpl)
    generalize L[p].word=x at *;generalize Zdd L p=u at *
    have HQ2:Hid ((O++ [x])++ups L (u+1).toNat=ups L (n+1)):=by
     show _=_;rw[Ybc,←HQ.out,hst.out];rfl
    clear HQ hst HU;go_wp2_with (at_builtin;refine Zfv rfl _ _ 34 rfl w wr 9 i0 _ 1 16 underlying34 hi hz0 hz1 hz2 rfl (by decide) (by decide) hown hb rfl 1 1 [.string x] rfl rfl (by simp;rfl) (by omega) ?_;intro v' w' hown' hb')
    refine(HUp.out _ hb').mono ?_;rintro e w3 ⟨rfl,hb3⟩;have hown3:=Zai (Zgh hown') hb3;have hb4:=Zaa hb' hb3;clear hown hb hown' hb' hb3 HUp x1 hadd hab;go_wp2_with fail;go_roundw
    case rel=>exact⟨(u+1).toNat,u,O++ [x],rfl,by omega,by omega,HQ2,by simp;omega,hown3,hb4⟩
    case measure=>simp[intOf];omega
end Go.Proofs.Zq
namespace Tre
open Go
def kidsTo (L:List Line) (D:Int) (a k:Nat):List Nat:=(List.range k).filter fun i=>decide (a≤i)&&decide (Zaj L i=D)
theorem Zwe (L:List Line) (D:Int) (a:Nat):kidsTo L D a a= []:=by
 unfold kidsTo;rw[List.filter_eq_nil_iff];intro i hi;have:i<a:=by simpa using hi
 simp;omega
theorem kidsTo_succ (L:List Line) (D:Int) (a k:Nat) (h:a≤k):kidsTo L D a (k+1)=if Zaj L k=D then kidsTo L D a k++ [k]else kidsTo L D a k:=by
 unfold kidsTo;rw[Ydg,Yco];by_cases hk:Zaj L k=D
 · rw[Yam hk];congr 1;simp[hk,h]
 · rw[Yab hk];simp[hk]
theorem kidsTo_len (L:List Line) (D:Int) (a k:Nat):(kidsTo L D a k).length≤k:=by
 unfold kidsTo;exact Yat (Yck _ _) (by simp)
theorem Zbh {L:List Line} {D:Int} {a k i:Nat}:i∈kidsTo L D a k↔i<k∧a≤i∧Zaj L i=D:=by
 unfold kidsTo;simp[List.mem_filter]
def Zat (L:List Line):List Nat:=kidsTo L 0 0 L.length
def kidsB (L:List Line) (i:Nat):List Nat:=kidsTo L (Zaj L i+1) (i+1) (endB L i)
def iv (l:List Nat):List Value:=l.map fun k:Nat=>Value.int .i64 (k:Int)
theorem Zahf {P:List Nat} {j:Nat} (h:j<P.length):(iv P)[j]?=some (.int .i64 (P[j]:Int)):=by unfold iv;simp[h]
theorem Zbb (L:List Line) (i:Nat) (hi:i<L.length):i+1≤endB L i∧endB L i≤L.length:=Zajw L _ _ (by omega)
end Tre
namespace Go.Proofs.Zq
open Tryz
open Go Go.RowKit Go.Sort Tre
def Zha (w:World) (P:List Nat) (e:Ending) (w':World):Prop:=
 ∃ A c,e= .returned (.slice A P.length c)∧P.length≤c∧c≤maxLen∧Rd w' 1 A P.length (iv P)∧Below w.heap.size w w'
theorem Zagz:(prog.info? 3).map (fun i=>(i.zero,i.size,i.bytes))=some (some (.int .i64 0),1,8):=by kernel_rfl
theorem Zkd {w:World} {base:Nat} {T:TypeId} {v:Value} {l:List Nat} {k:Nat} (h:w.ownsRow base T 1 v (l.length+1) (iv l++ [.int .i64 (k:Int)])):w.ownsRow base T 1 v (l++ [k]).length (iv (l++ [k])):=by
 unfold iv at *;simpa using h
theorem Rd.intAt {w:World} {A:Option Addr} {P:List Nat} (h:Rd w 1 A P.length (iv P)) {i:Nat} (hi:i<P.length):
 ∃ B O,A=some ⟨B,O,none⟩∧B<w.heap.size∧(⟨B,O,none⟩:Addr).add i=⟨B,O+i,none⟩∧w.cell? ⟨B,O+i,none⟩=some (.int .i64 (P[i]:Int)):=by
 obtain⟨ad,e,hb,hx⟩:=h.2 (by omega)
 have h0:=hx i _ (Zahf hi);have hs:ad.spot=none:=by
  have h00:=hx 0 _ (Zahf (by omega:0<P.length))
  exact World.cell?_spot h00
 obtain⟨B,O,sp⟩:=ad;obtain rfl:sp=none:=hs;rw[Zag]at h0;exact⟨B,O,e,hb,Zag _ _ _,h0⟩
theorem Zagu {d:Int} {la:Nat→ByteArray}: ∀ {L:List Line},Zea d la L=true→ ∀ l∈L,Zco l=true
 | [],_,_,h=>by cases h
 | x ::r,hg,l,hl=>by
   unfold Zea at hg;split at hg
   · rename_i hok;rcases Yav.1 hl with rfl|hl
     · unfold rgOk at hok;simp only[Yaq]at hok;exact hok.1.1
     · exact Zagu hg l hl
   · cases hg
theorem Zud {L:List Line} (h:Zab L=true): ∀ l∈L,Zco l=true:=by
 unfold Zab at h;simp only[Yaq]at h;exact Zagu h.2
theorem right_depth {L:List Line} (h:Zab L=true) {n:Nat} (hn:n<L.length):0≤L[n].depth∧L[n].depth<16:=by
 have:=Zud h _ (Yaw hn);unfold Zco at this;simp only[Yaq,Yao]at this;exact⟨this.1.1.1.1,this.1.1.1.2⟩
theorem Zyo (A:Option Addr) (cap:Nat) (L:List Line) (w:World) (hR:Rd w 3 A L.length (lines L)) (hcap:L.length≤cap) (hc:cap≤maxLen) (hr:Zab L=true):
 Calls prog 88 #[.slice A L.length cap, .int .i64 (-1)] w (Zha w (Zat L)):=by
 obtain⟨i0,hi,hz0,hz1,hz2⟩:=info_parts Zagz;have HC:=Zhd (Zbm A cap L w hR hcap hc);have h200:=Zau hr;have HR:=Zhd hR;have hRt:Hid (Zab L=true):=hr;unfold maxLen at hc;clear hR hr;unfold Zat;go_enter func88,ntmps88;go_wp2_with fail;refine HC.out.mono ?_;rintro e w1 ⟨rfl,hb1⟩;clear HC;rw[hRt.out];have hng:decide ((L.length:Int)≤ -1)=false:=Yai (by omega)
 go_wp2;rw[show kidsTo L 0 0 L.length=kidsTo L (0:Int) 0 L.length from rfl];go_loopw [8,9] (fun v vk wr=> ∃ k:Nat,vk= .int .i64 k∧0≤k∧k≤L.length∧wr.ownsRow w.heap.size 3 1 v (kidsTo L 0 0 k).length (iv (kidsTo L 0 0 k))∧Below w.heap.size w wr) (fun _ vk _=>L.length-(intOf vk).toNat)
 case atStart=>exact⟨0,by go_num,by omega,by omega,by rw[Zwe];exact World.ownsRow_nil _ _ _ _,hb1⟩
 case round=>
  clear hb1;obtain⟨k,rfl,hak,hk,hown,hb⟩:=hrel;by_cases hlt:k<L.length
  · have hpl:k<L.length:=by omega
    obtain⟨B',Of',rfl,hab',hadd',y0,-,-⟩:=(HR.out.below hb).line hpl
    have hst:Hid (kidsTo L 0 0 (k+1)=if L[k].depth=0 then kidsTo L 0 0 k++ [k]else kidsTo L 0 0 k):=by
     show _=_;rw[kidsTo_succ _ _ _ _ hak,Zaq hpl]
    have hlen:=kidsTo_len L 0 0 k;generalize L[k].depth=x at *;by_cases hxD:x=0
    · have HT:Hid (kidsTo L 0 0 (k+1)=kidsTo L 0 0 k++ [k]):=by show _=_;rw[hst.out,Yam hxD]
      have hxb:(x==0)=true:=by rw[beq_iff_eq];exact hxD
      clear hst hxD;generalize kidsTo L 0 0 k=sp at *;go_wp2_with (at_builtin;refine Zfv rfl _ _ 125 rfl w wr 3 i0 _ 1 8 underlying125 hi hz0 hz1 hz2 rfl (by decide) (by decide) hown hb rfl 1 1 [.int .i64 (k:Int)] rfl rfl (by simp;rfl) (by omega) ?_;intro v' w' hown' hb')
      go_roundw
      case rel=>
       refine⟨k+1,by go_num,by omega,by omega, ?_⟩
       rw[HT.out]
       first|exact⟨Zkd hown',hb'⟩|exact Zkd hown'
      case measure=>simp[intOf];omega
    · have HT:Hid (kidsTo L 0 0 (k+1)=kidsTo L 0 0 k):=by show _=_;rw[hst.out,Yab hxD]
      have hxb:(x==0)=false:=by rw[Yak];exact hxD
      clear hst;go_wp2_with fail;go_roundw
      case rel=>exact⟨k+1,by go_num,by omega,by omega,by rw[HT.out];exact hown,hb⟩
      case measure=>simp[intOf];omega
  · obtain hkE:k=L.length:=by omega
    subst hkE;have hlen:=kidsTo_len L 0 0 (L.length);obtain⟨A',c,rfl,hc1,hc2,hRd⟩:=Zbj hown;have K:Hid (Zha w (kidsTo L 0 0 (L.length)) (.returned (.slice A' (kidsTo L 0 0 (L.length)).length c)) wr):=⟨A',c,rfl,hc1,hc2,hRd,hb⟩;clear hown hRd hb;go_wp2;go_ret;exact K.out
theorem Zor (A:Option Addr) (cap:Nat) (L:List Line) (n:Nat) (w:World) (hR:Rd w 3 A L.length (lines L)) (hcap:L.length≤cap) (hc:cap≤maxLen) (hr:Zab L=true) (hn:n<L.length):
 Calls prog 88 #[.slice A L.length cap, .int .i64 n] w (Zha w (kidsB L n)):=by
 obtain⟨i0,hi,hz0,hz1,hz2⟩:=info_parts Zagz;have HC:=Zhd (Zbm A cap L w hR hcap hc);have h200:=Zau hr;have HR:=Zhd hR
 have hEnd:Hid (∀ W,Below w.heap.size w W→Calls prog 62 #[.slice A L.length cap, .int .i64 n] W fun e w'=>e= .returned (.int .i64 (endB L n:Nat))∧Below W.heap.size W w'):=fun W hb=>by
  have:=Zsz A cap L n W (hR.below hb) hcap hc;rw[Zgk hr hn]at this;simpa using this
 have hRt:Hid (Zab L=true):=hr;have hel:=Zbb L n hn;unfold maxLen at hc;have hdb:=right_depth hr hn;have hkb:kidsB L n=kidsTo L (L[n].depth+1) (n+1) (endB L n):=by unfold kidsB;rw[Zaq hn]
 rw[hkb];obtain⟨d,hd⟩: ∃ d,L[n].depth=d:=⟨_,rfl⟩;obtain⟨E,hE⟩: ∃ E,endB L n=E:=⟨_,rfl⟩;rw[hd]at hdb⊢;rw[hE]at hEnd hel⊢;have HD:=Zhd hd;clear hR hr hkb hd hE;go_enter func88,ntmps88;go_wp2_with fail;refine HC.out.mono ?_;rintro e w1 ⟨rfl,hb1⟩;clear HC;rw[hRt.out];have hng:decide ((L.length:Int)≤(n:Int))=false:=Yai (by omega)
 obtain⟨B,O,rfl,hab,hadd,x0,-,-⟩:=(HR.out.below hb1).line hn;have hs: ∀ m os,Calls prog 62 #[.slice (some ⟨B,O,none⟩) L.length cap, .int .i64 n] (grow (redrawn w1 m) os) fun e w'=>e= .returned (.int .i64 (E:Nat))∧ ∃ p:Regrown,w'=grow (redrawn w1 p.d) p.os:=fun m os=>Calls.regrown_of (hEnd.out _ (Zaa hb1 (below_regrown w1 m os)))
 rw[HD.out]at x0;have b0: ∀ m os,(grow (redrawn w1 m) os).cell? ⟨B,O+n*3,none⟩=some (.int .i64 d):=fun m os=>cell_regrown x0 m os
 have HB1:=Zhd hb1;clear hEnd x0 hb1;go_wp2;refine wp_region_quiet_below (by kernel_rfl) (by kernel_rfl) ?_
 repeat (go_big_quiet_step ((go_at_call 62;exact hs _ _)))
 refine wpQuiet_nil ?_;intro _ hw';obtain⟨⟨dq,osq⟩,hw''⟩:=hw';subst hw'';have hb1:Below w.heap.size w (grow (redrawn w1 dq) osq):=Zaa HB1.out (below_regrown w1 dq osq);clear HB1 b0 hs;generalize grow (redrawn w1 dq) osq=w3 at *;go_wp2;have hel2:n+1≤E∧E≤L.length:=by omega
 go_loopw [8,9] (fun v vk wr=> ∃ k:Nat,vk= .int .i64 k∧(n+1)≤k∧k≤E∧wr.ownsRow w.heap.size 3 1 v (kidsTo L (d+1) (n+1) k).length (iv (kidsTo L (d+1) (n+1) k))∧Below w.heap.size w wr) (fun _ vk _=>E-(intOf vk).toNat)
 case atStart=>exact⟨(n+1),by go_num,by omega,by omega,by rw[Zwe];exact World.ownsRow_nil _ _ _ _,hb1⟩
 case round=>
  clear hb1;obtain⟨k,rfl,hak,hk,hown,hb⟩:=hrel;by_cases hlt:k<E
  · have hpl:k<L.length:=by omega
    obtain⟨B',Of',hA',hab',hadd',y0,-,-⟩:=(HR.out.below hb).line hpl;injection hA' with hA'
    injection hA' with hBB hOO
    subst hBB hOO
    have hst:Hid (kidsTo L (d+1) (n+1) (k+1)=if L[k].depth=(d+1)then kidsTo L (d+1) (n+1) k++ [k]else kidsTo L (d+1) (n+1) k):=by
     show _=_;rw[kidsTo_succ _ _ _ _ hak,Zaq hpl]
    have hlen:=kidsTo_len L (d+1) (n+1) k;generalize L[k].depth=x at *;by_cases hxD:x=(d+1)
    · have HT:Hid (kidsTo L (d+1) (n+1) (k+1)=kidsTo L (d+1) (n+1) k++ [k]):=by show _=_;rw[hst.out,Yam hxD]
      have hxb:(x==(d+1))=true:=by rw[beq_iff_eq];exact hxD
      clear hst hxD;generalize kidsTo L (d+1) (n+1) k=sp at *;go_wp2_with (at_builtin;refine Zfv rfl _ _ 125 rfl w wr 3 i0 _ 1 8 underlying125 hi hz0 hz1 hz2 rfl (by decide) (by decide) hown hb rfl 1 1 [.int .i64 (k:Int)] rfl rfl (by simp;rfl) (by omega) ?_;intro v' w' hown' hb')
      go_roundw
      case rel=>
       refine⟨k+1,by go_num,by omega,by omega, ?_⟩
       rw[HT.out]
       first|exact⟨Zkd hown',hb'⟩|exact Zkd hown'
      case measure=>simp[intOf];omega
    · have HT:Hid (kidsTo L (d+1) (n+1) (k+1)=kidsTo L (d+1) (n+1) k):=by show _=_;rw[hst.out,Yab hxD]
      have hxb:(x==(d+1))=false:=by rw[Yak];exact hxD
      clear hst;go_wp2_with fail;go_roundw
      case rel=>exact⟨k+1,by go_num,by omega,by omega,by rw[HT.out];exact hown,hb⟩
      case measure=>simp[intOf];omega
  · obtain hkE:E=k:=by omega
    subst hkE;have hlen:=kidsTo_len L (d+1) (n+1) (E);obtain⟨A',c,rfl,hc1,hc2,hRd⟩:=Zbj hown;have K:Hid (Zha w (kidsTo L (d+1) (n+1) (E)) (.returned (.slice A' (kidsTo L (d+1) (n+1) (E)).length c)) wr):=⟨A',c,rfl,hc1,hc2,hRd,hb⟩;clear hown hRd hb;go_wp2;go_ret;exact K.out
end Go.Proofs.Zq
