import Derived.Sort.LotA
import Derived.Lib.OwnBridge
import Derived.Test.YtkbojechhmmkcaaGreatDoorK08
set_option linter.unusedVariables false
set_option linter.unusedSimpArgs false
set_option maxHeartbeats 4000000
set_option maxRecDepth 100000
namespace Prs
open Go Go.Lib Tre Lx
theorem Zup {en:Int} {p:Pst} (h:(Zci en p.l).1=3) (h0:p.opn.length=0):stB en p=((Zci en p.l).2,2,p):=by unfold stB;rw[Yam h,Yam h0]
theorem Zsc {en:Int} {p:Pst} (h:(Zci en p.l).1=3) (h0:p.opn.length≠0):stB en p=(0,0,⟨p.l.drop 1,p.nodes,p.opn.take (p.opn.length-1)⟩):=by unfold stB;rw[Yam h,Yab h0]
theorem Zzm {en:Int} {p:Pst} (h:(Zci en p.l).1≠3):stB en p=Zrh en p:=by unfold stB;rw[Yab h]
theorem Zyq {en:Int} {p:Pst} {mk:Int} {l1:List Tok} (hm:Zbs 0 p.l=(mk,false,l1)):Zrh en p=((Zci en l1).2,2,⟨l1,p.nodes,p.opn⟩):=by
 unfold Zrh;simp only[hm];rw[Yam trivial]
theorem Zto {en:Int} {p:Pst} {mk:Int} {l1:List Tok} (hm:Zbs 0 p.l=(mk,true,l1)) (h:(nameB mk ⟨l1,p.nodes,p.opn⟩).1≠0):Zrh en p=((Zci en l1).2,(nameB mk ⟨l1,p.nodes,p.opn⟩).1,⟨l1,p.nodes,p.opn⟩):=by
 unfold Zrh;simp only[hm];rw[Yab (by simp),Yam h]
theorem Zrs {en:Int} {p:Pst} {mk:Int} {l1:List Tok} (hm:Zbs 0 p.l=(mk,true,l1)) (h:(nameB mk ⟨l1,p.nodes,p.opn⟩).1=0):Zrh en p=Zrn en (nameB mk ⟨l1,p.nodes,p.opn⟩).2:=by
 unfold Zrh;simp only[hm];rw[Yab (by simp),Yab (by simp[h])]
theorem end_open {en:Int} {p:Pst} (h:(Zci en p.l).1=2):Zrn en p=(0,0,⟨p.l.drop 1,p.nodes,p.opn++ [p.nodes.length-1]⟩):=by unfold Zrn;rw[Yam h]
theorem Zxu {en:Int} {p:Pst} (h:(Zci en p.l).1=4):Zrn en p=(0,0,⟨p.l.drop 1,p.nodes,p.opn⟩):=by unfold Zrn;rw[Yab (by omega),Yam h]
theorem Zadt {en:Int} {p:Pst} (h:(Zci en p.l).1≠2) (h4:(Zci en p.l).1≠4):Zrn en p=((Zci en p.l).2,2,p):=by unfold Zrn;rw[Yab h,Yab h4]
theorem Zrt: ∀ (l:List Tok) (b mk:Int) (l1:List Tok),Zbs b l=(mk,true,l1)→ ∃ t r,l1=t::r
 | [],b,mk,l1,h=>by unfold Zbs at h;injection h with _ h;injection h with h;cases h
 | t ::r,b,mk,l1,h=>by
   unfold Zbs at h;split at h
   · split at h
     · injection h with _ h;injection h with h;cases h
     · exact Zrt r _ mk l1 h
   · injection h with _ h
     injection h with _ h
     exact⟨t,r,h.symm⟩
theorem Zaxw {mk:Int} {p:Pst} (h:(nameB mk p).1≠0):(nameB mk p).2=p:=by
 unfold nameB at h⊢;split
 · rfl
 · rename_i t r hl;rw[hl]at h;simp only at h⊢;split
   · rfl
   · split
     · rfl
     · split
       · rfl
       · rename_i h1 h2 h3;rw[Yab h1,Yab h2,Yab h3]at h;exact absurd rfl h
theorem Zbct {mk:Int} {p:Pst} {t:Tok} {r:List Tok} (hl:p.l=t::r) (h:(nameB mk p).1=0): ∃ n,(nameB mk p).2=⟨r,p.nodes++ [n],p.opn⟩∧p.nodes.length<200∧p.opn.length<16:=by
 unfold nameB at h⊢;rw[hl]at h⊢;simp only at h⊢;split
 · rename_i h1;rw[Yam h1]at h;cases h
 · rename_i h1;rw[Yab h1]at h;split
   · rename_i h2;rw[Yam h2]at h;cases h
   · rename_i h2;rw[Yab h2]at h;split
     · rename_i h3;rw[Yam h3]at h;cases h
     · exact⟨_,rfl,by omega,by omega⟩
theorem Ztt {en:Int} {l:List Tok} (h:(Zci en l).1≠0): ∃ t r,l=t::r:=by
 cases l with
 |nil=>exact absurd rfl h
 |cons t r=>exact⟨t,r,rfl⟩
end Prs
namespace Go.Proofs.Zq
open Tryz
open Go Go.RowKit Go.Sort Tre Lx Prs
theorem Zaib (w:World) (g i j:Nat) (u v:Value) (h:i≠j):(w.setCell ⟨g,i,none⟩ u).setCell ⟨g,j,none⟩ v=(w.setCell ⟨g,j,none⟩ v).setCell ⟨g,i,none⟩ u:=by
 unfold World.setCell;simp only;congr 1;apply Array.ext_getElem?;intro b;simp only[Ydi];by_cases hb:g=b
 · simp only[hb,if_true,Option.map_map];congr 1;funext o;cases o with
   | cells c e f=>
     simp only[Function.comp,Option.isSome_none,Yeb,if_false];congr 1;apply Array.ext_getElem?;intro k;simp only[Ycx,Array.size_setIfInBounds];by_cases hi:i=k<;>by_cases hj:j=k<;>simp[hi,hj]<;>omega
   |_=>rfl
 · simp only[Yab hb]
theorem Zti:(prog.info? 3).map (fun i=>(i.zero,i.size,i.bytes))=some (some (.int .i64 0),1,8):=by kernel_rfl
theorem Zalj (w:World) (T:TypeId) (x:Int):Rd (w.alloc (.cells #[.int .i64 x] T)) 1 (some ⟨w.heap.size,0,none⟩) 1 [.int .i64 x]:=by
 refine⟨rfl,fun _=>⟨_,rfl,by simp,fun j u hu=> ?_⟩⟩
 rw[Zag,Ybi,World.cell?_alloc_at _ _ _ _ rfl];simpa using hu
theorem Zayt {B g:Nat} {en:Int} {p:Pst} {Al:Option Addr} {cl:Nat} {vn vo:Value} {w6:World} (h:Psr B g en p Al cl vn vo w6) {k:Nat} {v:Value} {w7:World} (hown:w7.ownsRow B 3 1 v (p.opn.length+1) (iv p.opn++ [.int .i64 (k:Int)])) (hb:Below B w6 w7) (hk:Zbw 3 w6 w7):
 Psr B g en ⟨p.l,p.nodes,p.opn++ [k]⟩ Al cl vn v (w7.setCell ⟨g,3,none⟩ v):=by
 obtain⟨k1,k2,k3,k4,k5,k6,k7⟩:=h
 have ho:w7.ownsRow B 3 1 v (p.opn++ [k]).length (iv (p.opn++ [k])):=by
  rw[show iv (p.opn++ [k])=iv p.opn++ [.int .i64 (k:Int)] by unfold iv;simp,Yae];exact hown
 have hg:=hk g _ _ (by decide) k1
 exact⟨Zpm hg _,k2,k3,k4,(k5.below hb).below ((Yag _ _).setCell (p:=⟨g,3,none⟩) k2 _),Zlv (hk.own (by decide) k6) hg (by decide) _,Zlv ho hg (by decide) _⟩
def Zvp (B g:Nat) (en:Int) (p:Pst) (W:World) (e:Ending) (w':World):Prop:=
 e= .returned (.tuple #[.int .i64 (stB en p).1, .int .i64 (stB en p).2.1])∧Zzw B g en (stB en p).2.2 w'∧Below B W w'
theorem Zaso (B g:Nat) (en:Int) (p:Pst) (Al:Option Addr) (cl:Nat) (vn vo:Value) (W:World) (h:Psr B g en p Al cl vn vo W) (hk:(Zci en p.l).1=3):
 Calls prog 73 #[.pointer (some ⟨g,0,none⟩)] W (Zvp B g en p W):=by
 obtain⟨t,r,hl⟩:=Ztt (en:=en) (l:=p.l) (by omega)
 have HN:=Zhd (Zrv B g en p Al cl vn vo W h);have HP:=Zhd h;unfold Zvp;by_cases h0:p.opn.length=0
 · have HX:Hid (stB en p=((Zci en p.l).2,2,p)):=Zup hk h0;rw[hk]at HN;obtain⟨-,Ao,co,rfl⟩:=h.slices;obtain⟨-,-,-,c3⟩:=h.cells;rw[h0]at c3;clear h hk h0 hl;generalize (Zci en p.l).2=at1 at *;go_enter func73,ntmps73;go_wp2_with fail;refine HN.out.mono ?_;rintro e w1 ⟨rfl,n1,rfl⟩;go_wp2;go_ret2;rw[HX.out];exact⟨rfl,⟨_,_,_,_,HP.out.drewN n1⟩,Zao (Yag _ _) n1⟩
 · have HX:Hid (stB en p=(0,0,⟨r,p.nodes,p.opn.take (p.opn.length-1)⟩)):=by show _=_;rw[Zsc hk h0,hl];rfl
   rw[hk]at HN;have hop:0<p.opn.length:=by omega
   obtain⟨q,co,rfl,hc1,hc2,-⟩:=h.lastO hop;have hsh:=Zakz (w:=W) h.2.2.2.2.2.2 (m:=p.opn.length-1) (by omega) hop
   have hlt:((iv p.opn).take ((p.opn.length-1)*1))=iv (p.opn.take (p.opn.length-1)):=by rw[Nat.mul_one];unfold iv;rw[List.map_take]
   rw[hlt]at hsh;have hol:(p.opn.take (p.opn.length-1)).length=p.opn.length-1:=by rw[Yah];omega
   have hso:=h.setO (o:=p.opn.take (p.opn.length-1)) (v:= .slice (some ⟨q,0,none⟩) (p.opn.length-1) co) (by rw[hol];exact hsh)
   obtain⟨b,o,rfl,hcl,hrc,HP1,HP2⟩:=hso.pop (t:=t) (r:=r) hl;obtain⟨c0,-,-,c3⟩:=h.cells;have f0:=h.frozen 0;have f3:=h.frozen 3;have hlen:p.l.length=r.length+1:=by rw[hl];rfl
   rw[hlen]at c0;have hBg:=h.2.1;obtain⟨m,hm⟩: ∃ m,p.opn.length=m+1:=⟨p.opn.length-1,by omega⟩
   rw[hm]at c3;simp only[hm,Yez]at HP1 HP2 HX;have hmc:(m:Int)≤(co:Int):=by omega
   have hm0:(0:Int)≤(m:Int):=by omega
   unfold maxLen at hc2;have hm63:(m:Int)+1≤9223372036854775807:=by omega
   have hne0:((m+1:Nat):Int)≠0:=by omega
   have hne1:(((m:Int)+1)==0)=false:=by rw[Yak];omega
   have hpos2:(0:Int)<(r.length:Int)+1:=by omega
   have h1r:(1:Int)≤(r.length:Int)+1:=by omega
   have hr1:(1:Int)≤(cl:Int):=by omega
   clear h hso hsh hlt hol hk h0 hl hlen hm hop hne0;generalize (Zci en p.l).2=at1 at *;by_cases h1:cl=1
   · obtain⟨hr,hp3⟩:=HP1 h1;subst hr;have HP3:=Zhd hp3;clear HP1 HP2 hp3;have c0:W.cell? ⟨g,0,none⟩=some (.slice (some ⟨b,o,none⟩) 1 cl):=c0;subst h1;go_enter func73,ntmps73;go_wp2_with fail;refine HN.out.mono ?_;rintro e w1 ⟨rfl,n1,rfl⟩;go_upto_region 5 with fail
     go_cut [] (fun wx=>Hid (Zzw B g en ⟨[],p.nodes,p.opn.take m⟩ wx)∧Hid (Below B W wx))
     case first=>
      go_region
      all_goals go_wp2_with fail
      all_goals go_meet
      all_goals have hbe:=(Zao (Yag B W) (n1+1)).setCell (p:=⟨g,3,none⟩) hBg (.slice (some ⟨q,0,none⟩) m co)
      all_goals first|exact⟨⟨_,_,_,_,HP3.out⟩,hbe.setCell (p:=⟨g,0,none⟩) hBg _⟩|(rw[Zaib _ g 0 3 _ _ (by decide)];exact⟨⟨_,_,_,_,HP3.out⟩,hbe.setCell (p:=⟨g,0,none⟩) hBg _⟩)
     case rest=>
      obtain⟨HN2,HB2⟩:=hcut;go_wp2;go_ret2;rw[HX.out];exact⟨rfl,HN2.out,HB2.out⟩
   · have HP3:=Zhd (HP2 h1);have h1': ¬ (1=cl):=fun e=>h1 e.symm
     have hcs:(cl:Int)-1=((cl-1:Nat):Int):=by omega
     clear HP1 HP2;go_enter func73,ntmps73;go_wp2_with fail;refine HN.out.mono ?_;rintro e w1 ⟨rfl,n1,rfl⟩;go_upto_region 5 with fail
     go_cut [] (fun wx=>Hid (Zzw B g en ⟨r,p.nodes,p.opn.take m⟩ wx)∧Hid (Below B W wx))
     case first=>
      go_region
      all_goals go_wp2_with fail
      all_goals go_meet
      all_goals have hbe:=(Zao (Yag B W) (n1+1)).setCell (p:=⟨g,3,none⟩) hBg (.slice (some ⟨q,0,none⟩) m co)
      all_goals first|exact⟨⟨_,_,_,_,HP3.out⟩,hbe.setCell (p:=⟨g,0,none⟩) hBg _⟩|(rw[Zaib _ g 0 3 _ _ (by decide)];exact⟨⟨_,_,_,_,HP3.out⟩,hbe.setCell (p:=⟨g,0,none⟩) hBg _⟩)
     case rest=>
      obtain⟨HN2,HB2⟩:=hcut;go_wp2;go_ret2;rw[HX.out];exact⟨rfl,HN2.out,HB2.out⟩
theorem Zazl (B g:Nat) (en:Int) (p:Pst) (Al:Option Addr) (cl:Nat) (vn vo:Value) (W:World) (h:Psr B g en p Al cl vn vo W) (hBW:B≤W.heap.size) (hn:p.nodes.length≤200) (hk:(Zci en p.l).1≠3):
 Calls prog 73 #[.pointer (some ⟨g,0,none⟩)] W (Zvp B g en p W):=by
 have HL:=Zhd (Zzm hk);have HN:=Zhd (Zrv B g en p Al cl vn vo W h);have HM:=Zhd (fun n=>Zapu B g en p Al cl vn vo (W.drewN n) (h.drewN n))
 have q1:((Zci en p.l).1==3)=false:=Yak.2 hk;obtain⟨mk,ok,l1,hm⟩: ∃ mk ok l1,Zbs 0 p.l=(mk,ok,l1):=⟨_,_,_,rfl⟩;unfold Zxa at HM;simp only[hm]at HM;obtain⟨k0,a0,h0⟩: ∃ k a,Zci en p.l=(k,a):=⟨_,_,rfl⟩;simp only[h0]at HN q1;unfold Zvp;clear h hk h0;go_enter func73,ntmps73;go_wp2_with fail;refine HN.out.mono ?_;rintro e w1 ⟨rfl,n1,rfl⟩;have HM1:=Zhd (HM.out n1);clear HN HM;go_wp2_with fail;refine HM1.out.mono ?_;rintro e w2 ⟨rfl,⟨A2,c2,hp2⟩,hb2⟩;have HB2:=Zhd (Below.trans (Zao (Yag B W) n1) hb2);have HP2:=Zhd hp2;have HN2:=Zhd (Zrv B g en _ A2 c2 vn vo w2 hp2);clear hp2 hb2 HM1;go_wp2_with fail;refine HN2.out.mono ?_;rintro e w3 ⟨rfl,n3,rfl⟩;clear HN2;cases ok with
 | false=>
   have HK:Hid (stB en p=((Zci en l1).2,2,⟨l1,p.nodes,p.opn⟩)):=by show _=_;rw[HL.out,Zyq hm]
   clear HL hm;go_wp2;go_ret2;rw[HK.out];exact⟨rfl,⟨_,_,_,_,HP2.out.drewN n3⟩,Zao HB2.out n3⟩
 | true =>
   obtain⟨t1,r1,hl1⟩:=Zrt _ _ _ _ hm;have HA:=Zhd (Zaqz B g en mk ⟨l1,p.nodes,p.opn⟩ A2 c2 vn vo (w2.drewN n3) (HP2.out.drewN n3) (Yat hBW HB2.out.size) t1 r1 hl1 hn);have HL1:=Zhd hl1;clear hl1;unfold Zadd at HA;go_wp2_with fail;refine HA.out.mono ?_;rintro e w4 ⟨rfl,⟨A4,c4,vn4,hp4⟩,hb4⟩;have HB4:=Zhd (HB2.out.trans ((Zao (Yag B w2) n3).trans hb4));clear HA hb4 HP2 HB2;by_cases hz:(nameB mk ⟨l1,p.nodes,p.opn⟩).1=0
   · obtain⟨n4,e4,hn4,ho4⟩:=Zbct (t:=t1) (r:=r1) HL1.out hz;rw[e4]at hp4;have HE:Hid (stB en p=Zrn en ⟨r1,p.nodes++ [n4],p.opn⟩):=by show _=_;rw[HL.out,Zrs hm hz,e4]
     rw[hz];have hsz4:B≤w4.heap.size:=Yat hBW HB4.out.size;obtain⟨k4,a4,hk4⟩: ∃ k a,Zci en r1=(k,a):=⟨_,_,rfl⟩;have HN4:=Zhd (Zrv B g en _ A4 c4 vn4 vo w4 hp4);simp only[hk4]at HN4;have HP4:=Zhd hp4;have HK4:=Zhd hk4;clear hp4 HL hm hz e4 HL1 hn hBW hk4;simp only at hn4 ho4;go_wp2_with fail;refine HN4.out.mono ?_;rintro e w5 ⟨rfl,n5,hw5⟩;have hb5:Below w4.heap.size w4 w5:=by rw[hw5];exact Zao (Yag _ _) n5
     have HP5:=Zhd (HP4.out.below hb5 hsz4);have HB5:=Zhd (HB4.out.trans (hb5.mono hsz4));have hB5:B≤w5.heap.size:=Yat hsz4 hb5.size;clear hw5 hb5 HN4 HP4 HB4 hsz4;by_cases h2:k4=2
     · have q2:(k4==2)=true:=beq_iff_eq.2 h2;obtain⟨t4,r4,hl4⟩:=Ztt (en:=en) (l:=r1) (by rw[HK4.out];change k4≠0;omega)
       have HK:Hid (stB en p=(0,0,⟨r4,p.nodes++ [n4],p.opn++ [p.nodes.length]⟩)):=by
        show _=_;rw[HE.out,end_open (by change (Zci en r1).1=2;rw[HK4.out];exact h2)]
        simp[hl4]
       clear HE HK4 h2;obtain⟨i0,hi,hz0,hz1,hz2⟩:=info_parts Zti;obtain⟨⟨An,cn,rfl⟩,Ao,co,rfl⟩:=HP5.out.slices;have HON:=Zhd HP5.out.2.2.2.2.2.2;have hnl:p.opn.length+1≤1000000000:=by omega
       obtain⟨-,-,c2,c3⟩:=HP5.out.cells;have c2n:w5.cell? ⟨g,2,none⟩=some (.slice An (p.nodes.length+1) cn):=by simpa using c2
       have f3:=HP5.out.frozen 3;have hnr:(p.nodes.length:Int)+1≤9223372036854775807:=by omega
       have hwr:IntKind.i64.wrap (p.nodes.length:Int)=p.nodes.length:=IntWalk.i64_in _ (by omega)
       have hgl5:=HP5.out.lt;clear c2;go_upto_region 18 with fail
       go_region_law ((refine Zme rfl _ _ 125 rfl B _ 3 i0 _ 1 8 underlying125 hi hz0 hz1 hz2 rfl (by decide) (by decide) ((Zai HON.out (by repeat (first|exact Yag _ _|refine Below.drew ?_|refine Zao ?_ _))).alloc _) (by simp;omega) (by rfl) (some ⟨w5.heap.size,0,none⟩) 1 1 [.int .i64 (p.nodes.length:Int)] rfl (Zalj w5 3 (p.nodes.length:Int)) (fun h=>by cases h) (by intro u hu;simp only[Yav,Ybq,or_false]at hu;subst hu;rfl) hnl ?_;intro v7 w7 hown7 hb7 hk7;obtain⟨q7,cc7,rfl⟩:=Zda hown7;have HB7:Hid (Below B w5 w7):=Below.trans (by repeat (first|exact Yag _ _|refine Below.drew ?_|refine Zao ?_ _|exact Zqy hB5 _)) hb7;have K7:Hid (Zbw 3 w5 w7):=Zabm hk7 (by repeat (first|exact Yag _ _|refine Below.drew ?_|refine Zao ?_ _|refine Below.alloc ?_ (by simp) _));have HG7:=Zhd (K7.out g _ _ (by decide) HP5.out.1);have f7:=Lib.frozen_of_heap HG7.out 3;have c37:w7.cell? ⟨g,3,none⟩=some (.slice Ao p.opn.length co):=(cell_of_row w7 g 3 _ _ (0,0) HG7.out).trans rfl))
       all_goals
        have HP8:=Zhd (Zayt HP5.out hown7 HB7.out K7.out);have HB8:=Zhd ((HB5.out.trans HB7.out).setCell (p:=⟨g,3,none⟩) HP5.out.2.1 (.slice (some ⟨q7,0,none⟩) (p.opn.length+1) cc7));generalize World.setCell w7 _ _=w8 at HP8 HB8⊢;clear HON HP5 HB5 c2n c3 f3 hown7 hb7 hk7 HB7 K7 HG7 f7 c37 hgl5;obtain⟨b,o,rfl,hc1,hrc,HP1,HP2⟩:=HP8.out.pop hl4;obtain⟨c0,-,-,-⟩:=HP8.out.cells;have f0:=HP8.out.frozen 0;have hb2:=Zmh HB8.out HP8.out;have hlen:r1.length=r4.length+1:=by rw[hl4];rfl
        have c0n:w8.cell? ⟨g,0,none⟩=some (.slice (some ⟨b,o,none⟩) (r4.length+1) c4):=by rw[←hlen];exact c0
        clear c0 HP8 HB8;by_cases h1:c4=1
        · obtain⟨hr,hp3⟩:=HP1 h1;subst hr;have HP3:=Zhd hp3;have HB3:=Zhd (hb2 (.slice (some ⟨b,o,none⟩) 0 0));have c0e:w8.cell? ⟨g,0,none⟩=some (.slice (some ⟨b,o,none⟩) 1 c4):=c0n;clear c0n;subst h1;clear HP1 HP2 hb2 hp3 hlen hl4;go_wp2;go_ret2;rw[HK.out];exact⟨rfl,⟨_,_,_,_,HP3.out⟩,HB3.out⟩
        · have HP3:=Zhd (HP2 h1);have HB3:=Zhd (hb2 (.slice (some ⟨b,o+4,none⟩) r4.length (c4-1)));have h1': ¬ (1=c4):=fun e=>h1 e.symm
          have hci:(1:Int)≤(c4:Int):=by omega
          have hcs:(c4:Int)-1=((c4-1:Nat):Int):=by omega
          have hpos2:(0:Int)<(r4.length:Int)+1:=by omega
          clear HP1 HP2 hb2 hlen hl4;go_wp2;go_ret2;rw[HK.out];exact⟨rfl,⟨_,_,_,_,HP3.out⟩,HB3.out⟩
     · have q2:(k4==2)=false:=Yak.2 h2;by_cases h4:k4=4
       · have q4:(k4==4)=true:=beq_iff_eq.2 h4;obtain⟨t4,r4,hl4⟩:=Ztt (en:=en) (l:=r1) (by rw[HK4.out];change k4≠0;omega)
         have HK:Hid (stB en p=(0,0,⟨r4,p.nodes++ [n4],p.opn⟩)):=by
          show _=_;rw[HE.out,Zxu (by change (Zci en r1).1=4;rw[HK4.out];exact h4)]
          simp[hl4]
         clear HE HK4 h2 h4;obtain⟨b,o,rfl,hc1,hrc,HP1,HP2⟩:=HP5.out.pop hl4;obtain⟨c0,-,-,-⟩:=HP5.out.cells;have f0:=HP5.out.frozen 0;have hb2:=Zmh HB5.out HP5.out;have hlen:r1.length=r4.length+1:=by rw[hl4];rfl
         have c0n:w5.cell? ⟨g,0,none⟩=some (.slice (some ⟨b,o,none⟩) (r4.length+1) c4):=by rw[←hlen];exact c0
         clear c0 HP5 HB5;by_cases h1:c4=1
         · obtain⟨hr,hp3⟩:=HP1 h1;subst hr;have HP3:=Zhd hp3;have HB3:=Zhd (hb2 (.slice (some ⟨b,o,none⟩) 0 0));have c0e:w5.cell? ⟨g,0,none⟩=some (.slice (some ⟨b,o,none⟩) 1 c4):=c0n;clear c0n;subst h1;clear HP1 HP2 hb2 hp3 hlen hl4;go_wp2;go_ret2;rw[HK.out];exact⟨rfl,⟨_,_,_,_,HP3.out⟩,HB3.out⟩
         · have HP3:=Zhd (HP2 h1);have HB3:=Zhd (hb2 (.slice (some ⟨b,o+4,none⟩) r4.length (c4-1)));have h1': ¬ (1=c4):=fun e=>h1 e.symm
           have hci:(1:Int)≤(c4:Int):=by omega
           have hcs:(c4:Int)-1=((c4-1:Nat):Int):=by omega
           have hpos2:(0:Int)<(r4.length:Int)+1:=by omega
           clear HP1 HP2 hb2 hlen hl4;go_wp2;go_ret2;rw[HK.out];exact⟨rfl,⟨_,_,_,_,HP3.out⟩,HB3.out⟩
       · have q4:(k4==4)=false:=Yak.2 h4
         have HK:Hid (stB en p=(a4,2,⟨r1,p.nodes++ [n4],p.opn⟩)):=by
          show _=_;rw[HE.out,Zadt (by change (Zci en r1).1≠2;rw[HK4.out];exact h2) (by change (Zci en r1).1≠4;rw[HK4.out];exact h4)]
          change ((Zci en r1).2,_)=_;rw[HK4.out]
         clear HE HK4 h2 h4;go_wp2;go_ret2;rw[HK.out];exact⟨rfl,⟨_,_,_,_,HP5.out⟩,HB5.out⟩
   · have HK:Hid (stB en p=((Zci en l1).2,(nameB mk ⟨l1,p.nodes,p.opn⟩).1,⟨l1,p.nodes,p.opn⟩)):=by show _=_;rw[HL.out,Zto hm hz]
     have qz:((nameB mk ⟨l1,p.nodes,p.opn⟩).1 !=0)=true:=by rw[bne_iff_ne];exact hz
     rw[Zaxw hz]at hp4;have HP4:=Zhd hp4;clear hp4 HL hm hz;generalize (nameB mk ⟨l1,p.nodes,p.opn⟩).1=z4 at *;go_wp2;go_ret2;rw[HK.out];exact⟨rfl,⟨_,_,_,_,HP4.out⟩,HB4.out⟩
theorem Zzn (B g:Nat) (en:Int) (p:Pst) (W:World) (h:Zzw B g en p W) (hBW:B≤W.heap.size) (hn:p.nodes.length≤200):
 Calls prog 73 #[.pointer (some ⟨g,0,none⟩)] W (Zvp B g en p W):=by
 obtain⟨Al,cl,vn,vo,h⟩:=h;by_cases hk:(Zci en p.l).1=3
 · exact Zaso B g en p Al cl vn vo W h hk
 · exact Zazl B g en p Al cl vn vo W h hBW hn hk
end Go.Proofs.Zq
namespace Prs
open Go Go.Lib Go.Sort Go.Proofs Tre Lx
structure Pre {α:Type} (c:α→α→Int):Prop where
 same: ∀ a,c a a=0
 anti: ∀ a b,c a b<0↔0<c b a
 trans: ∀ a b d,c a b≤0→c b d≤0→c a d≤0
theorem Pre.le_iff {α:Type} {c:α→α→Int} (h:Pre c) (a b:α):c a b≤0↔0≤c b a:=by
 have:=h.anti b a;constructor<;>intro h1<;>omega
theorem Pre.zero_iff {α:Type} {c:α→α→Int} (h:Pre c) (a b:α):c a b=0↔c b a=0:=by
 have h1:=h.anti a b;have h2:=h.anti b a;constructor<;>intro h0<;>omega
theorem Pre.strict {α:Type} {c:α→α→Int} (h:Pre c) {a b d:α} (h1:c a b<0) (h2:c b d≤0):c a d<0:=by
 have h3:=h.trans a b d (by omega) h2
 rcases Yek h3 with h4|h4
 · exact h4
 · have h5:c d a≤0:=by rw[(h.zero_iff a d).1 h4];omega
   have h6:=h.trans b d a h2 h5;have:=h.anti a b;omega
theorem Pre.by {α β:Type} {c:α→α→Int} (h:Pre c) (f:β→α):Pre fun a b=>c (f a) (f b) where
 same _:=h.same _
 anti _ _:=h.anti _ _
 trans _ _ _:=h.trans _ _ _
theorem Zana (a:List UInt8):compareBytes a a=0:=by
 induction a with
 |nil=>rfl
 |cons x a ih=>unfold compareBytes;rw[Yab (UInt8.lt_irrefl x),Yab (UInt8.lt_irrefl x),ih]
theorem Zqe: ∀ {a b:List UInt8},compareBytes a b=0→a=b
 | [],[],_=>rfl
 | [],_::_,h=>by simp[compareBytes]at h
 |_::_,[],h=>by simp[compareBytes]at h
 | x :: a,y::b,h=>by
   unfold compareBytes at h;split at h
   · simp at h
   · split at h
     · simp at h
     · rename_i h1 h2;have hxy:x=y:=by
        rw[UInt8.lt_iff_toNat_lt]at h1 h2;exact Ybx.1 (by omega)
       rw[hxy,Zqe h]
theorem Zsp: ∀ {a b:List UInt8},compareBytes a b<0↔a<b
 | [],[]=>by simp[compareBytes]
 | [],_::_=>by simp[compareBytes]
 |_::_,[]=>by simp[compareBytes]
 | x :: a,y::b=>by
   unfold compareBytes;rw[List.cons_lt_cons_iff];split
   · rename_i h1;exact⟨fun _=> .inl h1,fun _=>by omega⟩
   · rename_i h1;split
     · rename_i h2;refine⟨fun h=>by omega, ?_⟩
       rintro(h|⟨h,-⟩)
       · exact absurd h h1
       · subst h;exact absurd h2 (UInt8.lt_irrefl _)
     · rename_i h2;have hxy:x=y:=by
        rw[UInt8.lt_iff_toNat_lt]at h1 h2;exact Ybx.1 (by omega)
       subst hxy;rw[Zsp];exact⟨fun h=> .inr ⟨rfl,h⟩,fun h=>h.resolve_left (UInt8.lt_irrefl _)|>.2⟩
theorem Zso: ∀ (a b:List UInt8),compareBytes a b<0↔0<compareBytes b a
 | [],[]=>by simp[compareBytes]
 | [],_::_=>by simp[compareBytes]
 |_::_,[]=>by simp[compareBytes]
 | x ::a,y::b=>by
   unfold compareBytes;by_cases h1:x<y
   · have h2: ¬ y<x:=fun h2=>by rw[UInt8.lt_iff_toNat_lt]at h1 h2;omega
     rw[Yam h1,Yab h2,Yam h1];omega
   · by_cases h2:y<x
     · rw[Yab h1,Yam h2,Yam h2];omega
     · rw[Yab h1,Yab h2,Yab h2,Yab h1];exact Zso a b
theorem Zarb:Pre compareBytes where
 same:=Zana
 anti:=Zso
 trans a b d h1 h2:=by
  rcases Yek h1 with h3|h3
  · rcases Yek h2 with h4|h4
    · have:=Zsp.2 (List.lt_trans (Zsp.1 h3) (Zsp.1 h4));omega
    · rw[←Zqe h4];exact h1
  · rw[Zqe h3];exact h2
theorem Pre.swo {α:Type} {c:α→α→Int} (h:Pre c):SWO (ltOf c) where
 irrefl a:=by unfold ltOf;rw[h.same a];rfl
 trans a b d h1 h2:=by
  unfold ltOf at *;rw[Yao]at *;exact h.strict h1 (by omega)
 ntrans a b d h1 h2:=by
  unfold ltOf at *;rw[decide_eq_false_iff_not]at *;have g1:=(h.le_iff b a).2 (by omega)
  have g2:=(h.le_iff d b).2 (by omega)
  have:=(h.le_iff d a).1 (h.trans d b a g2 g1);omega
theorem Pre.parts {α:Type} {c:α→α→Int} (h:Pre c) (hz: ∀ a b,c a b=0→a=b) (x y:α) (h1:ltOf c x y=false) (h2:ltOf c y x=false):x=y:=by
 unfold ltOf at h1 h2;rw[decide_eq_false_iff_not]at h1 h2;have:=h.anti y x;exact hz x y (by omega)
def Zav (N:List Nd) (i:Nat):Nd:=N.getD i ⟨⟨0,ByteArray.empty,0⟩,0⟩
theorem Zfp {N:List Nd} {i:Nat} (h:i<N.length):Zav N i=N[i]:=by
 unfold Zav;rw[Yar,Yaj h];rfl
def isKid (N:List Nd) (u:Int) (i:Nat):Bool:=decide ((Zav N i).up=u)
def kidsTo (N:List Nd) (u:Int) (k:Nat):List Nat:=(List.range k).filter (isKid N u)
theorem kidsTo_succ (N:List Nd) (u:Int) (k:Nat):kidsTo N u (k+1)=if isKid N u k then kidsTo N u k++ [k]else kidsTo N u k:=by
 unfold kidsTo;rw[Ydg,Yco];cases h:isKid N u k<;>simp[h]
theorem kidsTo_len (N:List Nd) (u:Int) (k:Nat):(kidsTo N u k).length≤k:=by
 have:=Yck (isKid N u) (List.range k);rw[Yfb]at this;exact this
def kidsB (N:List Nd) (u:Int):List Nat:=kidsTo N u N.length
theorem Ztm {N:List Nd} {u:Int} {i:Nat}:i∈kidsB N u↔i<N.length∧(Zav N i).up=u:=by
 unfold kidsB kidsTo isKid;rw[Ycu,Ycm,Yao]
def cmpW (N:List Nd) (a b:Nat):Int:=compareBytes (Zav N a).line.word.data.toList (Zav N b).line.word.data.toList
theorem Zahx (N:List Nd):Pre (cmpW N):=Zarb.by fun i=>(Zav N i).line.word.data.toList
def Zcv (N:List Nd) (u:Int):List Nat:=(kidsB N u).mergeSort fun x y=> !(ltOf (cmpW N)) y x
theorem Zcn {N:List Nd} {u:Int} {i:Nat}:i∈Zcv N u↔i<N.length∧(Zav N i).up=u:=by
 unfold Zcv;rw[List.mem_mergeSort,Ztm]
theorem Zui (N:List Nd) (u:Int):(Zcv N u).length=(kidsB N u).length:=by unfold Zcv;simp
def Zrl (N:List Nd):Prop:= ∀ i j,i<N.length→j<N.length→(Zav N i).up=(Zav N j).up→(Zav N i).line.word=(Zav N j).line.word→i=j
def Kd (N:List Nd) (u:Int):Type:={i:Nat//i∈kidsB N u}
def cmpK (N:List Nd) (u:Int) (a b:Kd N u):Int:=cmpW N a.1 b.1
theorem Zahw (N:List Nd) (u:Int):Pre (cmpK N u):=(Zahx N).by Subtype.val
theorem Zanh {N:List Nd} {u:Int} (h:Zrl N) (a b:Kd N u) (h0:cmpK N u a b=0):a=b:=by
 obtain⟨a1,a2⟩:=Ztm.1 a.2;obtain⟨b1,b2⟩:=Ztm.1 b.2;refine Subtype.ext (h a.1 b.1 a1 b1 (a2.trans b2.symm) ?_);have:=Zqe (show compareBytes _ _=0 from h0)
 exact ByteArray.ext (Yec.1 this)
theorem Zapk (N:List Nd) (u:Int):((show List (Kd N u)from(kidsB N u).attach).mergeSort fun x y=> !(ltOf (cmpK N u)) y x).map (fun x=>x.1)=Zcv N u:=by
 unfold Zcv;have h:=List.map_mergeSort (r:=fun x y:Kd N u=> !(ltOf (cmpK N u)) y x) (s:=fun x y=> !(ltOf (cmpW N)) y x) (f:=fun x:Kd N u=>x.1) (l:=(kidsB N u).attach) (fun a _ b _=>rfl)
 rw[h];congr 1;exact List.attach_map_subtype_val _
def Zmd:Nat→List Nd→Int→List Line
 |0,_,_=> []
 |k+1,N,u=>(Zcv N u).flatMap fun i=>(Zav N i).line::Zmd k N (i:Nat)
def Zzq (N:List Nd):Prop:= ∀ i,i<N.length→(Zav N i).up<i
theorem Zqm {N:List Nd} (h:Zzq N) {u:Int} {i:Nat} (hi:i∈Zcv N u):u<i:=by
 obtain⟨h1,h2⟩:=Zcn.1 hi;have:=h i h1;omega
theorem Zaxh {N:List Nd} (h:Zzq N) {u:Int} (hu:(N.length:Int)≤u+1):Zcv N u= []:=by
 refine List.eq_nil_iff_forall_not_mem.2 fun i hi=> ?_
 have h1:=Zqm h hi;have h2:=(Zcn.1 hi).1;omega
end Prs
namespace Go.Proofs
open Go.Shelf
def Tryz.sortI6_ren:Go.Shelf.Ren:=⟨fun|6=>117|15=>122|14=>152|28=>162|29=>163|20=>185|21=>186|22=>187|23=>188|24=>189|25=>190|26=>191|27=>192|46=>219|47=>195|48=>196|49=>220|50=>221|57=>242|n=>n,fun|22=>125|24=>3|25=>172|3=>3|39=>176|0=>0|53=>211|55=>213|4=>4|46=>205|45=>204|50=>90|5=>5|9=>9|66=>241|70=>245|76=>263|77=>164|n=>n,fun|n=>n⟩
theorem Tryz.sortI6:Go.Proofs.SlLaysF.n6 prog Tryz.sortI6_ren:={
 mixed:=by kernel_rfl
 f6:=⟨Tryz.f117.name,by decide,func117.trans (congrArg some (by kernel_rfl))⟩
 f14:=⟨Tryz.f152.name,by decide,func152.trans (congrArg some (by kernel_rfl))⟩
 f15:=func122.trans (congrArg some (by kernel_rfl))
 f20:=⟨Tryz.f185.name,by decide,func185.trans (congrArg some (by kernel_rfl))⟩
 f21:=⟨Tryz.f186.name,by decide,func186.trans (congrArg some (by kernel_rfl))⟩
 f22:=⟨Tryz.f187.name,by decide,func187.trans (congrArg some (by kernel_rfl))⟩
 f23:=⟨Tryz.f188.name,by decide,func188.trans (congrArg some (by kernel_rfl))⟩
 f24:=⟨Tryz.f189.name,by decide,func189.trans (congrArg some (by kernel_rfl))⟩
 f25:=⟨Tryz.f190.name,by decide,func190.trans (congrArg some (by kernel_rfl))⟩
 f26:=⟨Tryz.f191.name,by decide,func191.trans (congrArg some (by kernel_rfl))⟩
 f27:=⟨Tryz.f192.name,by decide,func192.trans (congrArg some (by kernel_rfl))⟩
 f28:=func162.trans (congrArg some (by kernel_rfl))
 f29:=func163.trans (congrArg some (by kernel_rfl))
 f46:=⟨Tryz.f219.name,by decide,func219.trans (congrArg some (by kernel_rfl))⟩
 f47:=func195.trans (congrArg some (by kernel_rfl))
 f48:=func196.trans (congrArg some (by kernel_rfl))
 f49:=⟨Tryz.f220.name,by decide,func220.trans (congrArg some (by kernel_rfl))⟩
 f50:=⟨Tryz.f221.name,by decide,func221.trans (congrArg some (by kernel_rfl))⟩
 f57:=⟨Tryz.f242.name,by decide,func242.trans (congrArg some (by kernel_rfl))⟩
 t0:=underlying0
 a0:=Tryz.isAgg0
 z0:=Tryz.sizeOf0
 v0:=Tryz.zeroValue0
 t3:=underlying3
 a3:=Tryz.isAgg3
 z3:=Tryz.sizeOf3
 v3:=Tryz.zeroValue3
 t4:=underlying4
 a4:=Tryz.isAgg4
 z4:=Tryz.sizeOf4
 v4:=Tryz.zeroValue4
 t5:=underlying5
 a5:=Tryz.isAgg5
 z5:=Tryz.sizeOf5
 v5:=Tryz.zeroValue5
 t9:=underlying9
 a9:=Tryz.isAgg9
 z9:=Tryz.sizeOf9
 v9:=Tryz.zeroValue9
 t22:=underlying125
 a22:=Tryz.isAgg125
 z22:=Tryz.sizeOf125
 v22:=Tryz.zeroValue125
 a24:=Tryz.isAgg3
 z24:=Tryz.sizeOf3
 t25:=underlying172
 a25:=Tryz.isAgg172
 z25:=Tryz.sizeOf172
 v25:=Tryz.zeroValue172
 t39:=underlying176
 a39:=Tryz.isAgg176
 z39:=Tryz.sizeOf176
 v39:=Tryz.zeroValue176
 t45:=underlying204
 a45:=Tryz.isAgg204
 z45:=Tryz.sizeOf204
 v45:=Tryz.zeroValue204
 t46:=underlying205
 a46:=Tryz.isAgg205
 z46:=Tryz.sizeOf205
 v46:=Tryz.zeroValue205
 t50:=underlying90
 a50:=Tryz.isAgg90
 z50:=Tryz.sizeOf90
 v50:=Tryz.zeroValue90
 t53:=underlying211
 a53:=Tryz.isAgg211
 z53:=Tryz.sizeOf211
 v53:=Tryz.zeroValue211
 t55:=underlying213
 a55:=Tryz.isAgg213
 z55:=Tryz.sizeOf213
 v55:=Tryz.zeroValue213
 t66:=underlying241
 a66:=Tryz.isAgg241
 z66:=Tryz.sizeOf241
 v66:=Tryz.zeroValue241
 t70:=underlying245
 a70:=Tryz.isAgg245
 z70:=Tryz.sizeOf245
 v70:=Tryz.zeroValue245
 t76:=underlying263
 a76:=Tryz.isAgg263
 z76:=Tryz.sizeOf263
 v76:=Tryz.zeroValue263
 t77:=underlying164
 a77:=Tryz.isAgg164
 z77:=Tryz.sizeOf164
 v77:=Tryz.zeroValue164}
def Tryz.sortI06_ren:Go.Shelf.Ren:=⟨fun|6=>117|15=>122|14=>152|28=>162|29=>163|20=>185|21=>186|22=>187|23=>188|24=>189|25=>190|26=>191|27=>192|46=>219|47=>195|48=>196|49=>220|50=>221|57=>242|n=>n,fun|22=>125|24=>3|25=>172|3=>3|39=>176|0=>0|53=>211|55=>213|4=>4|46=>205|45=>204|50=>90|5=>5|9=>9|66=>241|70=>245|76=>263|77=>164|n=>n,fun|n=>n⟩
theorem Tryz.sortI06:Go.Proofs.SlLaysF0.n6 prog Tryz.sortI06_ren:={
 mixed:=by kernel_rfl
 f6:=⟨Tryz.f117.name,by decide,func117.trans (congrArg some (by kernel_rfl))⟩
 f14:=⟨Tryz.f152.name,by decide,func152.trans (congrArg some (by kernel_rfl))⟩
 f15:=func122.trans (congrArg some (by kernel_rfl))
 f20:=⟨Tryz.f185.name,by decide,func185.trans (congrArg some (by kernel_rfl))⟩
 f21:=⟨Tryz.f186.name,by decide,func186.trans (congrArg some (by kernel_rfl))⟩
 f22:=⟨Tryz.f187.name,by decide,func187.trans (congrArg some (by kernel_rfl))⟩
 f23:=⟨Tryz.f188.name,by decide,func188.trans (congrArg some (by kernel_rfl))⟩
 f24:=⟨Tryz.f189.name,by decide,func189.trans (congrArg some (by kernel_rfl))⟩
 f25:=⟨Tryz.f190.name,by decide,func190.trans (congrArg some (by kernel_rfl))⟩
 f26:=⟨Tryz.f191.name,by decide,func191.trans (congrArg some (by kernel_rfl))⟩
 f27:=⟨Tryz.f192.name,by decide,func192.trans (congrArg some (by kernel_rfl))⟩
 f28:=func162.trans (congrArg some (by kernel_rfl))
 f29:=func163.trans (congrArg some (by kernel_rfl))
 f46:=⟨Tryz.f219.name,by decide,func219.trans (congrArg some (by kernel_rfl))⟩
 f47:=func195.trans (congrArg some (by kernel_rfl))
 f48:=func196.trans (congrArg some (by kernel_rfl))
 f49:=⟨Tryz.f220.name,by decide,func220.trans (congrArg some (by kernel_rfl))⟩
 f50:=⟨Tryz.f221.name,by decide,func221.trans (congrArg some (by kernel_rfl))⟩
 f57:=⟨Tryz.f242.name,by decide,func242.trans (congrArg some (by kernel_rfl))⟩
 t0:=underlying0
 a0:=Tryz.isAgg0
 z0:=Tryz.sizeOf0
 v0:=Tryz.zeroValue0
 t3:=underlying3
 a3:=Tryz.isAgg3
 z3:=Tryz.sizeOf3
 v3:=Tryz.zeroValue3
 t4:=underlying4
 a4:=Tryz.isAgg4
 z4:=Tryz.sizeOf4
 v4:=Tryz.zeroValue4
 t5:=underlying5
 a5:=Tryz.isAgg5
 z5:=Tryz.sizeOf5
 v5:=Tryz.zeroValue5
 t9:=underlying9
 a9:=Tryz.isAgg9
 z9:=Tryz.sizeOf9
 v9:=Tryz.zeroValue9
 t22:=underlying125
 a22:=Tryz.isAgg125
 z22:=Tryz.sizeOf125
 v22:=Tryz.zeroValue125
 t25:=underlying172
 a25:=Tryz.isAgg172
 z25:=Tryz.sizeOf172
 v25:=Tryz.zeroValue172
 t39:=underlying176
 a39:=Tryz.isAgg176
 z39:=Tryz.sizeOf176
 v39:=Tryz.zeroValue176
 t45:=underlying204
 a45:=Tryz.isAgg204
 z45:=Tryz.sizeOf204
 v45:=Tryz.zeroValue204
 t46:=underlying205
 a46:=Tryz.isAgg205
 z46:=Tryz.sizeOf205
 v46:=Tryz.zeroValue205
 t50:=underlying90
 a50:=Tryz.isAgg90
 z50:=Tryz.sizeOf90
 v50:=Tryz.zeroValue90
 t53:=underlying211
 a53:=Tryz.isAgg211
 z53:=Tryz.sizeOf211
 v53:=Tryz.zeroValue211
 t55:=underlying213
 a55:=Tryz.isAgg213
 z55:=Tryz.sizeOf213
 v55:=Tryz.zeroValue213
 t66:=underlying241
 a66:=Tryz.isAgg241
 z66:=Tryz.sizeOf241
 v66:=Tryz.zeroValue241
 t70:=underlying245
 a70:=Tryz.isAgg245
 z70:=Tryz.sizeOf245
 v70:=Tryz.zeroValue245
 t76:=underlying263
 a76:=Tryz.isAgg263
 z76:=Tryz.sizeOf263
 v76:=Tryz.zeroValue263
 t77:=underlying164
 a77:=Tryz.isAgg164
 z77:=Tryz.sizeOf164
 v77:=Tryz.zeroValue164}
end Go.Proofs
namespace Go.Proofs.Zq
open Tryz
open Go Go.RowKit Go.Sort Tre Lx Prs
theorem RdB.up {B B':Nat} {w:World} {k n:Nat} {A:Option Addr} {xs:List Value} (h:RdB B w k A n xs) (hb:B≤B'):RdB B' w k A n xs:=
 ⟨h.1,fun hn=>by
  obtain⟨ad,e,hl,hx⟩:=h.2 hn;exact⟨ad,e,Ycc hl hb,hx⟩⟩
theorem RdB.rd {B:Nat} {w:World} {k n:Nat} {A:Option Addr} {xs:List Value} (h:RdB B w k A n xs) (hb:B≤w.heap.size):Rd w k A n xs:=h.up hb
theorem Zavs (N:List Nd) (A:Option Addr) (c pl a b:Nat) (ha:a<N.length) (hb:b<N.length) (w:World) (hl:w.cell? ⟨pl,0,none⟩=some (.slice A N.length c)) (hR:Rd w 4 A N.length (nds N)):
 Calls prog 118 #[.int .i64 (a:Int), .int .i64 (b:Int), .pointer (some ⟨pl,0,none⟩)] w fun e w'=>e= .returned (.int .i64 (cmpW N a b))∧ ∃ n,w'=w.drewN n:=by
 obtain⟨g,o,e1,-,ad1,-,x1,-,-⟩:=hR.nd ha;obtain⟨g2,o2,e2,-,ad2,-,x2,-,-⟩:=hR.nd hb;subst e1;obtain⟨rfl,rfl⟩:g=g2∧o=o2:=by cases e2;exact⟨rfl,rfl⟩
 have HX:Hid (cmpW N a b=Lib.compareBytes N[a].line.word.data.toList N[b].line.word.data.toList):=by
  show _=_;unfold cmpW;rw[Zfp ha,Zfp hb]
 generalize N[a].line.word=s at *;generalize N[b].line.word=t at *;have HC:=Zhd (fun W=>Tryz.strings_Compare s t W)
 have k1:(a:Int)<(N.length:Int):=by omega
 have k2:(b:Int)<(N.length:Int):=by omega
 clear hR e2;go_enter func118,ntmps118;go_wp2_with fail;refine wp_region_still_tail 12 (by kernel_rfl) (by kernel_rfl) ?_
 simp only[List.take_succ_cons,List.take_zero,List.drop_succ_cons,Yeu]
 repeat still_step
 refine wpStill_nil ?_;change wpList _ _ _ _ _ w.drew;go_wp2_with (go_at_call 119;refine(HC.out w.drew).mono ?_;rintro e w' ⟨rfl,rfl⟩);go_ret;exact⟨Zcb HX.out.symm,1,rfl⟩
theorem Znl (w:World) (os:Array Obj):Below w.heap.size w (grow w os):=
 ⟨rfl,rfl,rfl,by simp[grow],fun k hk=>by simp[grow,Array.getElem?_append_left hk]⟩
theorem Zlb {α:Type} [Inhabited α] {enc:α→Value} {B:Nat} {w:World} {g n:Nat} {d:Array α} {os:Array Obj} (hB:B≤w.heap.size) (hg:B≤g):Below B w (sortWorld enc w g 0 n d os):=by
 have h1:Below B w (putRow enc (Sort.ahead w n) g 0 d):=Lib.below_putRow (Yag _ _) hg;exact h1.trans ((Znl _ os).mono (Yat hB h1.size))
theorem Zasf (N:List Nd) (u:Int) (hN:Zrl N) (hl2:N.length≤200) (A:Option Addr) (c pl base g cap:Nat) (w:World) (h0:0<(kidsB N u).length) (hB:base≤w.heap.size) (hlp:pl<base) (hl:w.cell? ⟨pl,0,none⟩=some (.slice A N.length c)) (hR:RdB base w 4 A N.length (nds N))
 (hO:w.ownsRow base 3 1 (.slice (some ⟨g,0,none⟩) (kidsB N u).length cap) (kidsB N u).length (iv (kidsB N u))):
 Calls prog 117 #[.slice (some ⟨g,0,none⟩) (kidsB N u).length cap, .func (.func 118) #[] #[.pointer (some ⟨pl,0,none⟩)]] w fun e w'=>e= .returned (.tuple #[])∧
  w'.ownsRow base 3 1 (.slice (some ⟨g,0,none⟩) (kidsB N u).length cap) (kidsB N u).length (iv (Zcv N u))∧Below base w w':=by
 have hI:Inhabited (Kd N u):=⟨⟨(kidsB N u)[0],Yaw h0⟩⟩;obtain⟨zs,hzs⟩: ∃ zs:List (Kd N u),zs=(kidsB N u).attach:=⟨_,rfl⟩;obtain⟨enc,henc⟩: ∃ enc:Kd N u→Value,enc=fun x=> .int .i64 (x.1:Int):=⟨_,rfl⟩
 have hmap: ∀ l:List (Kd N u),l.map enc=iv (l.map fun x=>x.1):=fun l=>by rw[henc];unfold iv;rw[Yes];rfl
 have hz1:zs.map (fun x=>x.1)=kidsB N u:=by rw[hzs];exact List.attach_map_subtype_val _
 have hO2:w.ownsRow base 3 1 (.slice (some ⟨g,0,none⟩) (kidsB N u).length cap) (kidsB N u).length (zs.map enc):=by rw[hmap,hz1];exact hO
 obtain⟨g',cap',e1,hbg,hgl,-,-,hzl,hH⟩:=Lib.holds_of_ownsRow hO2 (by simp)
 obtain rfl:g=g':=by cases e1;rfl
 have hcmp:CmpLays1 prog 118 #[.pointer (some ⟨pl,0,none⟩)] enc (cmpK N u) g 0 zs.toArray.size w:=fun m os dk _ x y=>by
  have hb:Below base w (sortWorld enc w g 0 m dk os):=Zlb hB hbg;have h:=Zavs N A c pl x.1 y.1 (Ztm.1 x.2).1 (Ztm.1 y.2).1 (sortWorld enc w g 0 m dk os) ((hb.cell (p:=⟨pl,0,none⟩) hlp).trans hl) ((hR.below hb).rd (Yat hB hb.size));rw[henc]at h⊢;refine Calls.mono h ?_;rintro e w' ⟨rfl,n,rfl⟩;exact⟨rfl,n,#[],by rw[grow_empty]⟩
 have hlen:(kidsB N u).length≤200:=Yat (kidsTo_len _ _ _) hl2;have h:=Any.slices_SortFunc_total Tryz.sortI6 enc (fun x=>by rw[henc];rfl) (cmpK N u) (Zahw N u).swo 118 #[.pointer (some ⟨pl,0,none⟩)] g 0 cap zs.toArray w (enters_of func118 (by kernel_rfl) rfl) hcmp hH hgl (by simp;omega) ((Zahw N u).parts (Zanh hN))
 have hs:zs.toArray.size=(kidsB N u).length:=by simpa using hzl
 rw[hs]at h;refine h.mono ?_;rintro e w' ⟨rfl,n,os,rfl⟩;refine⟨rfl, ?_,Zlb hB hbg⟩;have hS:(zs.mergeSort fun x y=> !(ltOf (cmpK N u)) y x).map (fun x=>x.1)=Zcv N u:=by rw[hzs];exact Zapk N u
 have hyl:(zs.mergeSort fun x y=> !(ltOf (cmpK N u)) y x).length=(kidsB N u).length:=by simpa using hzl
 have hr:=Lib.ownsRow_putRow (q:=n) (k:=(kidsB N u).length) hO2 hyl (Yaf _);rw[←hyl,Ybw,hyl,hmap,hS]at hr;exact Zai hr (Znl _ os)
end Go.Proofs.Zq
namespace Prs
open Go Go.Lib Go.Sort Go.Proofs Tre Lx
def Zin:Nat→List Nd→Int→List Nat
 |0,_,_=> []
 |k+1,N,u=>(Zcv N u).flatMap fun i=>i::Zin k N (i:Nat)
theorem Zuh: ∀ (k:Nat) (N:List Nd) (u:Int),Zmd k N u=(Zin k N u).map fun i=>(Zav N i).line
 |0,_,_=>rfl
 | k+1,N,u=>by
   unfold Zmd Zin;rw[List.map_flatMap];congr 1;funext i;rw[Yej,←Zuh k N (i:Nat)]
inductive BU (N:List Nd) (i:Nat):Nat→Prop
 |self:BU N i i
 |step {p j:Nat}:BU N i p→j<N.length→(Zav N j).up=(p:Int)→BU N i j
theorem Zbbo {N:List Nd} (h:Zzq N) {i j:Nat} (hb:BU N i j):i≤j:=by
 induction hb with
 |self=>exact Yaf _
 | step _ h1 h2 ih=>
   have:=h _ h1;omega
theorem Zbga {N:List Nd} (h:Zzq N) {u:Int} {i i' j:Nat} (hi:(Zav N i).up=u) (hl:i<N.length) (hi':(Zav N i').up=u) (hl':i'<N.length) (hb:BU N i j) (hb':BU N i' j):i=i':=by
 induction hb with
 | self=>
   cases hb' with
   |self=>rfl
   | step h1 h2 h3=>
     have a:=Zbbo h h1;have b:=h i' hl';omega
 | step h1 h2 h3 ih=>
   cases hb' with
   | self=>
     have a:=Zbbo h h1;have b:=h i hl;omega
   | step k1 k2 k3=>
     rename_i p j p';have e:p=p':=by omega
     subst e;exact ih k1
theorem Zbad {N:List Nd} {i i2 j:Nat} (h4:i2<N.length) (h5:(Zav N i2).up=(i:Int)) (h2:BU N i2 j):BU N i j:=by
 induction h2 with
 |self=>exact .step .self h4 h5
 |step _ a b ih=>exact .step ih a b
theorem Zsa {N:List Nd}: ∀ {k:Nat} {u:Int} {j:Nat},j∈Zin k N u→ ∃ i,i∈Zcv N u∧BU N i j∧j<N.length
 |0,_,_,h=>by cases h
 | k+1,u,j,h=>by
   unfold Zin at h;obtain⟨i,hi,hj⟩:=Ydk.1 h;rcases Yav.1 hj with rfl|hj
   · exact⟨j,hi, .self,(Zcn.1 hi).1⟩
   · obtain⟨i2,h1,h2,h3⟩:=Zsa hj;refine⟨i,hi, ?_,h3⟩;obtain⟨h4,h5⟩:=Zcn.1 h1;exact Zbad h4 h5 h2
theorem Zuj (N:List Nd) (u:Int):(Zcv N u).Nodup:=by
 unfold Zcv;refine(List.mergeSort_perm _ _).nodup_iff.2 ?_;unfold kidsB kidsTo;exact List.Nodup.sublist List.filter_sublist List.nodup_range
theorem Zul {N:List Nd} (h:Zzq N): ∀ (k:Nat) (u:Int),(Zin k N u).Nodup
 |0,_=>List.nodup_nil
 | k +1,u=>by
   unfold Zin;rw[Ydt,List.pairwise_flatMap]
   have hin: ∀ i j,i∈Zcv N u→j∈i::Zin k N (i:Nat)→BU N i j:=fun i j _ hj=>by
    rcases Yav.1 hj with rfl|hj
    · exact .self
    · obtain⟨i2,h1,h2,h3⟩:=Zsa hj;obtain⟨h4,h5⟩:=Zcn.1 h1;exact Zbad h4 h5 h2
   refine⟨fun i hi=> ?_, ?_⟩
   · rw[←Ydt,List.nodup_cons];refine⟨fun hm=> ?_,Zul h k _⟩
     obtain⟨i2,h1,h2,-⟩:=Zsa hm;have a:=Zqm h h1;have b:=Zbbo h h2;omega
   · refine List.Pairwise.imp_of_mem ?_ (Ydt.1 (Zuj N u));intro a b ha hb hne x hx y hy e;subst e;obtain⟨a1,a2⟩:=Zcn.1 ha;obtain⟨b1,b2⟩:=Zcn.1 hb;exact hne (Zbga h a2 a1 b2 b1 (hin a x ha hx) (hin b x hb hy))
theorem Zaqf: ∀ {n:Nat} {l:List Nat},l.Nodup→(∀ x∈l,x<n)→l.length≤n:=fun {n l} h hb=>by
 have:=List.Nodup.length_le_of_subset h (l₂:=List.range n) fun x hx=>Ycm.2 (hb x hx)
 rwa [Yfb]at this
theorem Zug {N:List Nd} (h:Zzq N) (k:Nat) (u:Int):(Zmd k N u).length≤N.length:=by
 rw[Zuh,Yay]
 exact Zaqf (Zul h k u) fun x hx=>by
  obtain⟨-,-,-,h1⟩:=Zsa hx;exact h1
theorem Zvm {N:List Nd} (h:Zzq N) (k:Nat) (u:Int) (j:Nat):(((Zcv N u).take j).flatMap fun i=>(Zav N i).line::Zmd k N (i:Nat)).length≤N.length:=by
 refine Yat ?_ (Zug h (k+1) u)
 conv=>rhs;unfold Zmd
 conv=>rhs;rw[←Ybk j (Zcv N u),Ycf,Yae]
 omega
end Prs
