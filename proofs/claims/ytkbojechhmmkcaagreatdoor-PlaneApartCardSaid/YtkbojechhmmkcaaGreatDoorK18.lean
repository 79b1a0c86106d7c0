import Derived.Test.YtkbojechhmmkcaaGreatDoorK09
import Derived.Test.YtkbojechhmmkcaaGreatDoorK17
set_option linter.unusedVariables false
set_option linter.unusedSimpArgs false
set_option maxHeartbeats 4000000
set_option maxRecDepth 100000
namespace Go.Proofs.Zq
open Tryz
open Go Go.RowKit Go.Sort Tre Lx Prs
theorem Zabd (w:World) (b:Option Nat):w.grownBy w b:=by
 constructor<;>first|rfl|exact Yaf _|(intros;rfl)
theorem Zwv {P:Program} {ops:Array Oper} {o:Oper} {a:Act} {K:Act→World→Prop} {Q:Exit→Act→World→Prop} {E:Prop} (hgd:o.guard=none) (s x:Operand) (t:TypeId)
 (ho:o.op= .call {callee:= .builtin .append,args:= #[s,x],argTypes:= #[t,t]})
 (B:Nat) (wr:World) (e:TypeId) (i:TypeInfo) (z:Value) (size bytes:Nat) (ht:P.underlying t=some (.slice e)) (hi:P.info? e=some i) (hz:i.zero=some z)
 (hsize:i.size=size) (hby:i.bytes=bytes) (hzs:z.cells.size=size) (hsz:0<size) (hb64:bytes≤64)
 {v:Value} {n:Nat} {xs:List Value} (hown:wr.ownsRow B e size v n xs) (hB:B≤wr.heap.size) (hs:a.eval s=v)
 (A:Option Addr) (m c:Nat) (news:List Value) (hx:a.eval x= .slice A m c) (hR:Rd wr size A m news) (hnil:A=none→c=0) (h1: ∀ u∈news,u.oneCell'=true)
 (hN:n+m≤1000000000)
 (h: ∀ v' w',w'.ownsRow B e size v' (n+m) (xs++news)→Below B wr w'→wr.grownBy w' v.ownBlock→Zbw e wr w'→K (a.put o.dst v') w'):
 if Region.wanted o (yielded ops a.tmps)=true then Oper.wp P o a wr K Q else E:=by
 have hw:Region.wanted o (yielded ops a.tmps)=true:=by simp[Region.wanted,hgd]
 have hbytes:(n+m)*bytes≤140737488355328:=Yat (Ydj hN hb64) (by decide)
 rw[Yam hw];rcases A with _|ad
 · have hm:m=0:=by
    rcases Ybj m with h0|h0
    · exact h0
    · obtain⟨ad,h,-⟩:=hR.2 h0;cases h
   subst hm;have hn:news= []:=Yap (by simpa using hR.1)
   subst hn;obtain rfl:=hnil rfl;have hrun:=run_append_owned_none (P:=P) (w:=wr) B t o.type e i size ht hi v n xs hown;unfold Oper.wp;simp[execOp,ho,resolve,invoke,builtin,hs,hx,hrun,Result.andThen];exact h v wr (by simpa using hown) (Yag _ _) (Zabd _ _) (Zbw.refl _ _)
 · exact wp_append_own wr s x t ho B e i z size bytes ht hi hz hsize hby hzs hsz v n xs hs hown ad m c news hx hR.1 (fun j u hu=>by
    obtain⟨ad',e',-,hc⟩:=hR.cell hu;injection e' with e'
    subst e';exact hc) h1 (by unfold maxLen;omega) hbytes hB
    fun v' w' hown' hg _=>h v' w' hown' ((Yag B wr).grown hg hB fun q hq=>(hown.lt q hq).1) hg (Zbw.grown hown hg)
theorem Zayl {W0 wr w':World} {B Bs n m k k':Nat} {e e':TypeId} {vo vs:Value} {xs ys:List Value} (hs:wr.ownsRow Bs e' k' vs m ys) (ho:W0.ownsRow B e k vo n xs) (hlt:W0.heap.size≤Bs) (hg:wr.grownBy w' vo.ownBlock):w'.ownsRow Bs e' k' vs m ys:=
 ⟨hs.1,hs.2.imp id fun⟨q,cap,cur,h1,h2,h3,h4⟩=>⟨q,cap,cur,h1,h2,(hg.block q (Ybf.1 h3).1 (fun h=>by
  have:=(ho.lt q h.symm).2;omega)).trans h3,h4⟩⟩
theorem Zqr {w:World} {B:Nat} {v:Value} {l:List Nat} {k:Nat} (h:w.ownsRow B 3 1 v (l.length+1) (iv l++ [.int .i64 (k:Int)])):w.ownsRow B 3 1 v (l++ [k]).length (iv (l++ [k])):=by
 rw[show iv (l++ [k])=iv l++ [.int .i64 (k:Int)] by unfold iv;simp,Yae];exact h
theorem Zff {a w:World} (h:Below a.heap.size a w) (o:Obj):Below a.heap.size a (w.alloc o):=h.alloc h.size o
theorem Zoa (w:World) (T:TypeId) (x:Line):Rd (w.alloc (.cells #[.int .i64 x.depth, .string x.word, .int .i64 x.mark] T)) 3 (some ⟨w.heap.size,0,none⟩) 1 (lines [x]):=by
 refine⟨rfl,fun _=>⟨_,rfl,by simp,fun j u hu=> ?_⟩⟩
 rw[Zag,Ybi,World.cell?_alloc_at _ _ _ _ rfl];have:lines [x]= [.int .i64 x.depth, .string x.word, .int .i64 x.mark]:=rfl;rw[this]at hu;simpa using hu
theorem Zafj (N:List Nd) (u:Int) (hN:Zrl N) (hl2:N.length≤200) (A:Option Addr) (c pl base:Nat) (A2:Option Addr) (cap:Nat) (w:World) (hB:base≤w.heap.size) (hlp:pl<base) (hl:w.cell? ⟨pl,0,none⟩=some (.slice A N.length c)) (hR:RdB base w 4 A N.length (nds N))
 (hO:w.ownsRow base 3 1 (.slice A2 (kidsB N u).length cap) (kidsB N u).length (iv (kidsB N u))):
 Calls prog 117 #[.slice A2 (kidsB N u).length cap, .func (.func 118) #[] #[.pointer (some ⟨pl,0,none⟩)]] w fun e w'=>e= .returned (.tuple #[])∧
  w'.ownsRow base 3 1 (.slice A2 (kidsB N u).length cap) (kidsB N u).length (iv (Zcv N u))∧Below base w w':=by
 rcases Ybj (kidsB N u).length with h0|h0
 · have e1:kidsB N u= []:=Yap h0;have e2:Zcv N u= []:=Yap (by rw[Zui];exact h0)
   rw[e2];rw[e1]at hO⊢;have h:=AnyF.slices_SortFunc_none Tryz.sortI06 A2 cap (.func (.func 118) #[] #[.pointer (some ⟨pl,0,none⟩)]) w;refine Calls.mono h ?_;rintro e w' ⟨rfl,rfl⟩;exact⟨rfl,hO,Yag _ _⟩
 · obtain⟨m,hm⟩: ∃ m,(kidsB N u).length=m+1:=⟨(kidsB N u).length-1,by omega⟩
   rw[hm]at hO;obtain⟨q,cc,e⟩:=Zda hO;injection e with e1 e2 e3
   subst e1;subst e3;rw[←hm]at hO;exact Zasf N u hN hl2 A c pl base q cap w h0 hB hlp hl hR hO
theorem Zbde {w:World} {B:Nat} {A:Option Addr} {c n j:Nat} {l:List Nat} (hl:l.length=n) (h:w.ownsRow B 3 1 (.slice A n c) n (iv l)) (hj:j<l.length): ∃ q,A=some ⟨q,0,none⟩∧w.cell? ⟨q,j,none⟩=some (.int .i64 (l[j]:Int)):=by
 rcases h.2 with⟨-,h0⟩|⟨q,cap,cur,e,-⟩
 · omega
 · injection e with e1 e2 e3
   subst e1;refine⟨q,rfl, ?_⟩;rw[h.cellAt j (by omega)]
   exact Zahf hj
theorem Zbdg {w:World} {B:Nat} {v:Value} {L M:List Line} {r:Line} (h:w.ownsRow B 62 3 v (L.length+1+M.length) ((lines L++lines [r])++lines M)):w.ownsRow B 62 3 v (L++([r]++M)).length (lines (L++([r]++M))):=by
 rw[Zbg,Zbg,Yae,Yae,←Ybc,←Ydn];exact h
theorem Zqs {w:World} {B k n c:Nat} {e:TypeId} {A:Option Addr} {xs:List Value} (h:w.ownsRow B e k (.slice A n c) n xs):Rd w k A n xs∧(A=none→c=0):=by
 obtain⟨A',c',e',-,-,g3,g4,-⟩:=Zcr h;injection e' with e1 e2 e3
 subst e1;subst e3;exact⟨g3,g4⟩
theorem Zum (N:List Nd) (u:Int) (hN:Zrl N) (hl2:N.length≤200) (A:Option Addr) (c:Nat) (W:World) (hR:Rd W 4 A N.length (nds N)) (R:Nat→List Line)
 (HR: ∀ i,i∈Zcv N u→ ∀ W',Below W.heap.size W W'→Calls prog 74 #[.slice A N.length c, .int .i64 (i:Int)] W' (Zct W' (R i)))
 (hlen: ∀ j,(((Zcv N u).take j).flatMap fun i=>(Zav N i).line::R i).length≤200) (hlr: ∀ i,i∈Zcv N u→(R i).length≤200):
 Calls prog 74 #[.slice A N.length c, .int .i64 u] W (Zct W ((Zcv N u).flatMap fun i=>(Zav N i).line::R i)):=by
 obtain⟨w1,hw1⟩: ∃ w1,W.alloc (.cells #[.slice A N.length c] 124)=w1:=⟨_,rfl⟩;have hb1:Below W.heap.size W w1:=by rw[←hw1];exact(Yag _ _).alloc (Yaf _) _
 have hs1:w1.heap.size=W.heap.size+1:=by rw[←hw1];simp
 have hc1:w1.cell? ⟨W.heap.size,0,none⟩=some (.slice A N.length c):=by rw[←hw1,World.cell?_alloc_at _ _ _ _ rfl];rfl
 have HRN:=Zhd (hR.below hb1);have HRB:Hid (RdB w1.heap.size w1 4 A N.length (nds N)):=hR.below hb1;have HB1:=Zhd hb1;have hpl:W.heap.size<w1.heap.size:=by omega
 have HN1:=Zhd hN;have HLen:=Zhd hlen;have HLr:=Zhd hlr;have HRec:Hid (∀ i,i∈Zcv N u→ ∀ W',Below w1.heap.size w1 W'→Calls prog 74 #[.slice A N.length c, .int .i64 (i:Int)] W' (Zct W' (R i))):=fun i hi W' hb=>HR i hi W' (hb1.trans (hb.mono (by omega)))
 obtain⟨i0,hi,hz0,hz1,hz2⟩:=info_parts Zti;obtain⟨j0,hji,hy0,hy1,hy2⟩:=info_parts Zml;obtain⟨f,hf⟩: ∃ f:Nat→List Line,f=fun j=>((Zcv N u).take j).flatMap fun i=>(Zav N i).line::R i:=⟨_,rfl⟩
 have F0:Hid (f 0= []):=by show _=_;rw[hf];simp
 have F1:Hid (∀ j (h:j<(Zcv N u).length),f (j+1)=f j++([(Zav N (Zcv N u)[j]).line]++R (Zcv N u)[j])):=by
  intro j h;rw[hf];simp only;rw[Yax h,Ycf];simp
 have FN:f (Zcv N u).length=(Zcv N u).flatMap fun i=>(Zav N i).line::R i:=by rw[hf];simp
 have FL:Hid (∀ j,(f j).length≤200):=by intro j;rw[hf];exact HLen.out j
 have HMem:Hid (∀ i,i∈Zcv N u→i<N.length):=fun i hi=>(Zcn.1 hi).1
 have HKl:=Zhd (Zui N u);have hSl:(Zcv N u).length≤200:=by rw[Zui];exact Yat (Prs.kidsTo_len _ _ _) hl2
 rw[←FN];have HSo:=Zhd (fun(A2:Option Addr) (c2:Nat) (w:World) (hb:Below w1.heap.size w1 w) (ho:w.ownsRow w1.heap.size 3 1 (.slice A2 (kidsB N u).length c2) (kidsB N u).length (iv (kidsB N u)))=>Zafj N u HN1.out hl2 A c W.heap.size w1.heap.size A2 c2 w hb.size hpl ((hb.cell (p:=⟨W.heap.size,0,none⟩) hpl).trans hc1) (HRB.out.below hb) ho)
 rw[←HKl.out]at HSo;have HK0:Hid (∀ (w:World) (v:Value),w.ownsRow w1.heap.size 3 1 v (kidsB N u).length (iv (kidsB N u))→w.ownsRow w1.heap.size 3 1 v (Zcv N u).length (iv (kidsB N u))):=by rw[HKl.out];exact fun _ _ h=>h
 clear hR HR hb1 hN hlen hlr hs1 hf FN HLen HN1 HKl;generalize Zcv N u=S at *;unfold Zct;go_enter func74,ntmps74;go_wp2;go_loopw [5,13] (fun vk vi wr=> ∃ k:Nat,vi= .int .i64 k∧k≤N.length∧Hid (wr.ownsRow w1.heap.size 3 1 vk (Prs.kidsTo N u k).length (iv (Prs.kidsTo N u k)))∧Hid (Below w1.heap.size w1 wr)) (fun _ vi _=>N.length-(intOf vi).toNat)
 case atStart=>exact⟨0,rfl,Yas _,World.ownsRow_nil _ _ _ _,Yag _ _⟩
 case round=>
  obtain⟨k,rfl,hk,HO,HB⟩:=hrel;by_cases hlt:k<N.length
  · obtain⟨b,o,rfl,hab,hadd,x0,x1,x2,x3⟩:=(HRN.out.below HB.out).nd hlt
    have hst:Hid (Prs.kidsTo N u (k+1)=if N[k].up=u then Prs.kidsTo N u k++ [k]else Prs.kidsTo N u k):=by
     show _=_;rw[Prs.kidsTo_succ];unfold Prs.isKid;rw[Zfp hlt];by_cases h:N[k].up=u<;>simp[h]
    have hkl:=Prs.kidsTo_len N u k;generalize N[k]=r at *;by_cases hu:r.up=u
    · have q1:(r.up==u)=true:=beq_iff_eq.2 hu;have HS:Hid (Prs.kidsTo N u (k+1)=Prs.kidsTo N u k++ [k]):=by show _=_;rw[hst.out,Yam hu]
      clear hst hu;have HO2:=Zhd (HO.out.alloc (.cells #[.int .i64 r.line.depth, .string r.line.word, .int .i64 r.line.mark, .int .i64 r.up] 169));have HB2:=Zhd (Zff HB.out (.cells #[.int .i64 r.line.depth, .string r.line.word, .int .i64 r.line.mark, .int .i64 r.up] 169));clear HO HB;go_wp2_with (at_builtin;refine Zfv rfl _ _ 125 rfl w1 _ 3 i0 _ 1 8 underlying125 hi hz0 hz1 hz2 rfl (by decide) (by decide) HO2.out HB2.out rfl 1 1 [.int .i64 (k:Int)] (by show Value.slice (some ⟨_,0,none⟩) 1 1=_;simp) rfl (by simp;rfl) (by omega) ?_;intro v' w' hown' hb')
      have HO3:=Zhd (Zqr hown');have HB3:=Zhd hb';clear hown' hb' HO2 HB2 x0 x1 x2 x3;go_wp2_with fail;go_roundw
      case rel=>exact⟨k+1,by go_num,by omega,by rw[HS.out];exact HO3.out,HB3.out⟩
      case measure=>simp[intOf];omega
    · have q1:(r.up==u)=false:=Yak.2 hu;have HS:Hid (Prs.kidsTo N u (k+1)=Prs.kidsTo N u k):=by show _=_;rw[hst.out,Yab hu]
      have HO2:=Zhd (HO.out.alloc (.cells #[.int .i64 r.line.depth, .string r.line.word, .int .i64 r.line.mark, .int .i64 r.up] 169));have HB2:=Zhd (Zff HB.out (.cells #[.int .i64 r.line.depth, .string r.line.word, .int .i64 r.line.mark, .int .i64 r.up] 169));clear hst hu HO HB;go_wp2_with fail;go_roundw
      case rel=>exact⟨k+1,by go_num,by omega,by rw[HS.out];exact HO2.out,HB2.out⟩
      case measure=>simp[intOf];omega
  · have hke:k=N.length:=by omega
    subst hke;have ho:=HK0.out _ _ HO.out;obtain⟨A2,c2,rfl,-,-,-⟩:=Zbj ho;have HSo2:=Zhd (HSo.out A2 c2 wr HB.out ho);clear ho HO hk hlt HSo HK0;go_wp2_with fail;refine HSo2.out.mono ?_;rintro e w5 ⟨rfl,ho5,hb5⟩;have HO5:=Zhd ho5;have HB5:=Zhd (HB.out.trans hb5);clear ho5 hb5 HSo2 HB;go_wp2;go_loopw [8,32] (fun vo vi wr=> ∃ j:Nat,vi= .int .i64 j∧j≤S.length∧Hid (wr.ownsRow w1.heap.size 62 3 vo (f j).length (lines (f j)))∧Hid (wr.ownsRow w1.heap.size 3 1 (.slice A2 S.length c2) S.length (iv S))∧Hid (Below w1.heap.size w1 wr)) (fun _ vi _=>S.length-(intOf vi).toNat)
    case atStart=>exact⟨0,rfl,Yas _,by rw[F0.out];exact World.ownsRow_nil _ _ _ _,HO5.out,HB5.out⟩
    case round=>
     clear HO5 HB5;obtain⟨j,rfl,hj,HO,HK,HB⟩:=hrel;by_cases hlt:j<S.length
     · obtain⟨q,rfl,c10⟩:=Zbde rfl HK.out hlt;have hiS:=Yaw hlt;have hiN:=HMem.out _ hiS;have HFJ:=Zhd (F1.out j hlt);have HL1:=Zhd (FL.out j);have HL2:=Zhd (FL.out (j+1));have HRi:=Zhd (HRec.out _ hiS);generalize S[j]=i at *;obtain⟨b,o,rfl,hab,hadd,y0,y1,y2,-⟩:=HRN.out.nd hiN;rw[Zfp hiN]at HFJ
       have HCells:Hid (∀ W',Below w1.heap.size w1 W'→W'.cell? ⟨W.heap.size,0,none⟩=some (.slice (some ⟨b,o,none⟩) N.length c)∧W'.cell? ⟨b,o+i*4,none⟩=some (.int .i64 N[i].line.depth)∧W'.cell? ⟨b,o+i*4+1,none⟩=some (.string N[i].line.word)∧W'.cell? ⟨b,o+i*4+2,none⟩=some (.int .i64 N[i].line.mark)):=fun W' hb=>
        ⟨(hb.cell (p:=⟨W.heap.size,0,none⟩) hpl).trans hc1,(hb.cell (p:=⟨b,o+i*4,none⟩) hab).trans y0,(hb.cell (p:=⟨b,o+i*4+1,none⟩) hab).trans y1,(hb.cell (p:=⟨b,o+i*4+2,none⟩) hab).trans y2⟩
       generalize N[i].line=r at *;have hi0:(0:Int)≤(i:Int):=by omega
       have hi1:(i:Int)<(N.length:Int):=by omega
       have hl3:(f j).length+1+(R i).length≤200:=by
        have:=HL2.out;rw[HFJ.out]at this;simp at this;omega
       clear y0 y1 y2 hc1 HRB HRN;go_upto_region 13 with fail
       obtain⟨x0,x1,x2,x3⟩:=HCells.out wr HB.out;go_region_held3 (fun w'=>w'.cell? ⟨W.heap.size,0,none⟩=some (.slice (some ⟨b,o,none⟩) N.length c)∧w'.cell? ⟨b,o+i*4,none⟩=some (.int .i64 r.depth)∧w'.cell? ⟨b,o+i*4+1,none⟩=some (.string r.word)∧w'.cell? ⟨b,o+i*4+2,none⟩=some (.int .i64 r.mark)) (first|exact z8.1|exact z8.2.1|exact z8.2.2.1|exact z8.2.2.2|exact z7.1|exact z7.2.1|exact z7.2.2.1|exact z7.2.2.2|exact z5.1|exact z5.2.1|exact z5.2.2.1|exact z5.2.2.2|go_keep) (first|(refine Zwv rfl _ _ 26 rfl w1.heap.size _ 62 j0 _ 3 32 underlying26 hji hy0 hy1 hy2 rfl (by decide) (by decide) (v:=u8) (n:=(f j).length) (xs:=lines (f j)) (by first|(refine Zai HO5.out ?_;(repeat (first|with_reducible exact Yag _ _|with_reducible refine Below.drew ?_|with_reducible refine Below.alloc ?_ (by simp) _));done)|(refine Zai HO.out ?_;(repeat (first|with_reducible exact Yag _ _|with_reducible refine Below.drew ?_|with_reducible refine Below.alloc ?_ (by simp) _));done)) (by first|exact Yat HB7.out.size (by simp;done)|exact Yat HB5.out.size (by simp;done)|exact Yat HB.out.size (by simp;done)) (by rfl) (some ⟨_,0,none⟩) 1 1 (lines [r]) rfl (by repeat (first|with_reducible exact Zoa _ _ r|with_reducible exact(Zoa _ _ r).below HL5.out|with_reducible exact((Zoa _ _ r).drew).below HL5.out|with_reducible refine Rd.drew ?_|with_reducible refine Rd.alloc ?_ _)) (fun h=>by cases h) (Zka _) (by omega) ?_;intro v7 w7 hown7 hb7 hg7 hk7;have HK7:=Zhd (hk7.own (by decide) (n:=S.length) (xs:=iv S) (v:= .slice (some ⟨q,0,none⟩) S.length c2) (base:=w1.heap.size) (k:=1) (e':=3) (by first|(refine Zai HK5.out ?_;(repeat (first|with_reducible exact Yag _ _|with_reducible refine Below.drew ?_|with_reducible refine Below.alloc ?_ (by simp) _));done)|(refine Zai HK.out ?_;(repeat (first|with_reducible exact Yag _ _|with_reducible refine Below.drew ?_|with_reducible refine Below.alloc ?_ (by simp) _));done)));have HO7:=Zhd hown7;have HW7:Hid (wr.heap.size≤w7.heap.size):=Yat (by first|exact Yat HW5.out (by simp;done)|(simp;done)) hb7.size;have HB7:Hid (Below w1.heap.size w1 w7):=Below.trans (by repeat (first|with_reducible exact HB7.out|with_reducible exact HB5.out|with_reducible exact HB.out|with_reducible refine Below.drew ?_|with_reducible refine Zff ?_ _)) hb7;have z7:=HCells.out _ HB7.out;(first|(have HS7:=Zhd (Zayl (Zai HS5.out (by (repeat (first|with_reducible exact Yag _ _|with_reducible refine Below.drew ?_|with_reducible refine Below.alloc ?_ (by simp) _));done)) HO.out (Yaf _) hg7))|skip);clear hown7 hb7 hg7 hk7)|(refine Zwv rfl _ _ 26 rfl w1.heap.size _ 62 j0 _ 3 32 underlying26 hji hy0 hy1 hy2 rfl (by decide) (by decide) (v:=v7) (n:=(f j).length+1) (xs:=lines (f j)++lines [r]) (by first|(refine Zai HO5.out ?_;(repeat (first|with_reducible exact Yag _ _|with_reducible refine Below.drew ?_|with_reducible refine Below.alloc ?_ (by simp) _));done)|(refine Zai HO7.out ?_;(repeat (first|with_reducible exact Yag _ _|with_reducible refine Below.drew ?_|with_reducible refine Below.alloc ?_ (by simp) _));done)) (by first|exact Yat HB7.out.size (by simp;done)|exact Yat HB5.out.size (by simp;done)|exact Yat HB.out.size (by simp;done)) (by rfl) A5 (R i).length c5 (lines (R i)) rfl (by repeat (first|with_reducible exact(Zqs HS7.out).1|with_reducible exact(Zqs HS5.out).1|with_reducible refine Rd.drew ?_|with_reducible refine Rd.alloc ?_ _)) HG5.out (Zka _) (by omega) ?_;intro v8 w8 hown8 hb8 hg8 hk8;have HK8:=Zhd (hk8.own (by decide) (n:=S.length) (xs:=iv S) (v:= .slice (some ⟨q,0,none⟩) S.length c2) (base:=w1.heap.size) (k:=1) (e':=3) (by first|(refine Zai HK7.out ?_;(repeat (first|with_reducible exact Yag _ _|with_reducible refine Below.drew ?_|with_reducible refine Below.alloc ?_ (by simp) _));done)|(refine Zai HK5.out ?_;(repeat (first|with_reducible exact Yag _ _|with_reducible refine Below.drew ?_|with_reducible refine Below.alloc ?_ (by simp) _));done)));have HO8:=Zhd (Zbdg hown8);have HB8:Hid (Below w1.heap.size w1 w8):=Below.trans (by repeat (first|with_reducible exact HB7.out|with_reducible exact HB5.out|with_reducible exact HB.out|with_reducible refine Below.drew ?_|with_reducible refine Zff ?_ _)) hb8;have z8:=HCells.out _ HB8.out;clear hown8 hb8 hg8 hk8)|(go_at_call 74;refine(HRi.out _ ?hbt).mono ?_;(case hbt=>repeat (first|with_reducible exact HB7.out|with_reducible exact HB5.out|with_reducible exact HB.out|with_reducible refine Below.drew ?_|with_reducible refine Zff ?_ _));unfold Zct;rintro e w5 ⟨⟨v5,rfl,ho5⟩,hb5⟩;obtain⟨A5,c5,rfl,-,-,-,g4,-⟩:=Zcr ho5;have HL5:=Zhd hb5;have HB5:Hid (Below w1.heap.size w1 w5):=Zaa (by repeat (first|with_reducible exact HB7.out|with_reducible exact HB5.out|with_reducible exact HB.out|with_reducible refine Below.drew ?_|with_reducible refine Zff ?_ _)) hb5;have HK5:=Zhd (Zai (n:=S.length) (xs:=iv S) (v:= .slice (some ⟨q,0,none⟩) S.length c2) (base:=w1.heap.size) (k:=1) (e:=3) (by first|(refine Zai HK7.out ?_;(repeat (first|with_reducible exact Yag _ _|with_reducible refine Below.drew ?_|with_reducible refine Below.alloc ?_ (by simp) _));done)|(refine Zai HK.out ?_;(repeat (first|with_reducible exact Yag _ _|with_reducible refine Below.drew ?_|with_reducible refine Below.alloc ?_ (by simp) _));done)) hb5);(first|(have HO5:=Zhd (Zai (n:=(f j).length+1) (xs:=lines (f j)++lines [r]) (v:=v7) (base:=w1.heap.size) (k:=3) (e:=62) (by refine Zai HO7.out ?_;(repeat (first|with_reducible exact Yag _ _|with_reducible refine Below.drew ?_|with_reducible refine Below.alloc ?_ (by simp) _));done) hb5))|(have HO5:=Zhd (Zai (n:=(f j).length) (xs:=lines (f j)) (v:=u8) (base:=w1.heap.size) (k:=3) (e:=62) (by refine Zai HO.out ?_;(repeat (first|with_reducible exact Yag _ _|with_reducible refine Below.drew ?_|with_reducible refine Below.alloc ?_ (by simp) _));done) hb5)));have HS5:=Zhd (Zkc (b2:=wr.heap.size) ho5 (by first|exact Yat HW7.out (by simp;done)|(simp;done)));have HW5:Hid (wr.heap.size≤w5.heap.size):=Yat (by first|exact Yat HW7.out (by simp;done)|(simp;done)) hb5.size;have HG5:=Zhd g4;have z5:=HCells.out _ HB5.out;clear ho5 hb5 g4))
       all_goals go_wp2_with fail
       all_goals go_roundw
       all_goals first
        |(simp[intOf];omega;done)
        |(refine⟨j+1,by go_num,by omega, ?_,HK8.out,HB8.out⟩;rw[HFJ.out];exact HO8.out)
     · have hje:j=S.length:=by omega
       subst hje;go_wp2;go_ret;exact⟨⟨_,rfl,Zkc HO.out HB1.out.size⟩,HB1.out.trans (HB.out.mono HB1.out.size)⟩
end Go.Proofs.Zq
namespace Prs
open Go Go.Lib Go.Sort Go.Proofs Tre Lx
def goB (en:Int):Nat→Pst→Int×Int×Pst
 |0,p=>(0,0,p)
 |k+1,p=>if p.l= []then(0,0,p)else if(stB en p).2.1≠0 then stB en p else goB en k (stB en p).2.2
structure Good (p:Pst):Prop where
 len:p.nodes.length≤200
 ups:Zzq p.nodes
 ap:Zrl p.nodes
 opn: ∀ k∈p.opn,k<p.nodes.length
theorem good_nil (l:List Tok):Good ⟨l,[],[]⟩:=⟨Yas _,fun _ h=>absurd h (Ydm _),fun _ _ h=>absurd h (Ydm _),fun _ h=>by cases h⟩
theorem Zabw: ∀ (l:List Tok) (b mk:Int) (ok:Bool) (l1:List Tok),Zbs b l=(mk,ok,l1)→l1.length≤l.length
 | [],b,mk,ok,l1,h=>by
   unfold Zbs at h;injection h with _ h;injection h with _ h
   rw[←h];exact Yaf _
 | t ::r,b,mk,ok,l1,h=>by
   unfold Zbs at h;split at h
   · split at h
     · injection h with _ h;injection h with _ h
       rw[←h];exact Yaf _
     · have:=Zabw r _ mk ok l1 h;simp;omega
   · injection h with _ h;injection h with _ h
     rw[←h];exact Yaf _
theorem Zahp {mk:Int} {p:Pst} {t:Tok} {r:List Tok} (hl:p.l=t::r) (h:(nameB mk p).1=0):
 (nameB mk p).2=⟨r,p.nodes++ [⟨⟨p.opn.length,t.word,mk⟩,topB p.opn⟩],p.opn⟩∧p.nodes.length<200∧p.opn.length<16∧Zvb p.nodes (topB p.opn) t.word=false:=by
 unfold nameB at h⊢;rw[hl]at h⊢;simp only at h⊢;split
 · rename_i h1;rw[Yam h1]at h;cases h
 · rename_i h1;rw[Yab h1]at h;split
   · rename_i h2;rw[Yam h2]at h;cases h
   · rename_i h2;rw[Yab h2]at h;split
     · rename_i h3;rw[Yam h3]at h;cases h
     · exact⟨rfl,by omega,by omega,by simpa using h2⟩
theorem Zds {N:List Nd} {n:Nd} {i:Nat} (h:i<N.length):Zav (N++ [n]) i=Zav N i:=by
 rw[Zfp (by simp;omega),Zfp h,Ydq h]
theorem Zfz {N:List Nd} {n:Nd}:Zav (N++ [n]) N.length=n:=by
 rw[Zfp (by simp)];simp
theorem Zbhn {o:List Nat} {m:Nat} (h: ∀ k∈o,k<m):topB o<m:=by
 unfold topB;cases hg:o.getLast? with
 |none=>simp only;omega
 | some k=>
   have:=h k (List.mem_of_getLast? hg);simp only;omega
theorem Zair {N:List Nd} {u:Int} {s:ByteArray} (h:Zvb N u s=false) {i:Nat} (hi:i<N.length) (hu:(Zav N i).up=u) (hs:(Zav N i).line.word=s):False:=by
 unfold Zvb at h;rw[Yfc]at h;have:=h (Zav N i) (by rw[Zfp hi];exact Yaw hi)
 simp[hu,hs]at this
theorem Zabb {l r:List Tok} {N:List Nd} {o:List Nat} (h:Good ⟨l,N,o⟩) {d mk:Int} {s:ByteArray} (hn:N.length<200) (ht:Zvb N (topB o) s=false):
 Good ⟨r,N++ [⟨⟨d,s,mk⟩,topB o⟩],o⟩:=by
 obtain⟨h1,h2,h3,h4⟩:=h;simp only at h1 h2 h3 h4;refine⟨by simp;omega,fun i hi=> ?_,fun i j hi hj hu hs=> ?_,fun k hk=> ?_⟩
 · rw[Yae]at hi;simp only[Ybd,Ydz]at hi;rcases Ybp i N.length with hl|hl
   · rw[Zds hl];exact h2 i hl
   · obtain rfl:i=N.length:=by omega
     rw[Zfz];exact Zbhn h4
 · rw [Yae]at hi hj;simp only[Ybd,Ydz]at hi hj;rcases Ybp i N.length with hl|hl
   · rcases Ybp j N.length with hk|hk
     · rw[Zds hl,Zds hk]at hu hs;exact h3 i j hl hk hu hs
     · obtain rfl:j=N.length:=by omega
       rw[Zds hl,Zfz]at hu hs;exact(Zair ht hl hu hs).elim
   · obtain rfl:i=N.length:=by omega
     rcases Ybp j N.length with hk|hk
     · rw[Zds hk,Zfz]at hu hs;exact(Zair ht hk hu.symm hs.symm).elim
     · omega
 · have:=h4 k hk;rw[Yae];simp;omega
theorem Ztg {en:Int} {p:Pst} (h:Good p) (hne:p.l≠ []) (he:(stB en p).2.1=0):Good (stB en p).2.2∧(stB en p).2.2.l.length<p.l.length:=by
 have hpos:0<p.l.length:=Ydf.2 hne;by_cases hk:(Zci en p.l).1=3
 · by_cases h0:p.opn.length=0
   · rw[Zup hk h0]at he;cases he
   · rw[Zsc hk h0];refine⟨⟨h.len,h.ups,h.ap,fun k hk=>h.opn k (Yff hk)⟩, ?_⟩
     simp only[Yan];omega
 · rw [Zzm hk]at he⊢;obtain⟨mk,ok,l1,hm⟩: ∃ mk ok l1,Zbs 0 p.l=(mk,ok,l1):=⟨_,_,_,rfl⟩;have hl1:=Zabw _ _ _ _ _ hm;cases ok with
   |false=>rw[Zyq hm]at he;cases he
   | true=>
     by_cases hz:(nameB mk ⟨l1,p.nodes,p.opn⟩).1=0
     · rw[Zrs hm hz]at he⊢;obtain⟨t1,r1,e1⟩:=Zrt _ _ _ _ hm;obtain⟨e4,hn,-,ht⟩:=Zahp (p:=⟨l1,p.nodes,p.opn⟩) e1 hz;rw[e4]at he⊢;have hg:Good ⟨p.l,p.nodes,p.opn⟩:=h;have hr:r1.length<p.l.length:=by rw[e1]at hl1;simp at hl1;omega
       by_cases h2:(Zci en r1).1=2
       · rw[end_open h2];have g:=Zabb (r:=r1.drop 1) (d:=(p.opn.length:Nat)) (mk:=mk) hg hn ht;refine⟨⟨g.len,g.ups,g.ap,fun k hk=> ?_⟩,by simp only[Yan];omega⟩
         rcases Ybn.1 hk with hk|hk
         · exact g.opn k hk
         · simp at hk;simp;omega
       · by_cases h4:(Zci en r1).1=4
         · rw[Zxu h4];exact⟨Zabb (r:=r1.drop 1) hg hn ht,by simp only[Yan];omega⟩
         · rw[Zadt h2 h4]at he;cases he
     · rw[Zto hm hz]at he;exact absurd he hz
theorem Zags {en:Int}: ∀ {k m:Nat} {p:Pst},Good p→p.l.length≤k→p.l.length≤m→goB en k p=goB en m p
 | 0,m,p,_,h1,_=>by
   have hl:p.l= []:=Yap (by omega)
   cases m with
   |zero=>rfl
   |succ m=>unfold goB;rw[Yam hl]
 | k+1,0,p,_,_,h2=>by
   have hl:p.l= []:=Yap (by omega)
   unfold goB;rw[Yam hl]
 | k + 1,m+1,p,hg,h1,h2=>by
   unfold goB;by_cases hl:p.l= []
   · rw[Yam hl,Yam hl]
   · rw[Yab hl,Yab hl];by_cases he:(stB en p).2.1=0
     · obtain⟨g1,g2⟩:=Ztg hg hl he;rw[Yab (by simp[he]),Yab (by simp[he])]
       exact Zags g1 (by omega) (by omega)
     · rw[Yam he,Yam he]
theorem Zaom (en:Int) (k:Nat) {p:Pst} (h:p.l= []):goB en k p=(0,0,p):=by
 cases k with
 |zero=>rfl
 |succ k=>unfold goB;rw[Yam h]
theorem Zbcg {en:Int} {p:Pst} (hne:p.l≠ []) (he:(stB en p).2.1≠0):goB en p.l.length p=stB en p:=by
 obtain⟨m,hm⟩: ∃ m,p.l.length=m+1:=⟨p.l.length-1,by have:=Ydf.2 hne;omega⟩
 rw[hm];unfold goB;rw[Yab hne,Yam he]
theorem Zagt {en:Int} {p:Pst} (hg:Good p) (hne:p.l≠ []) (he:(stB en p).2.1=0):goB en p.l.length p=goB en (stB en p).2.2.l.length (stB en p).2.2:=by
 obtain⟨g1,g2⟩:=Ztg hg hne he;obtain⟨m,hm⟩: ∃ m,p.l.length=m+1:=⟨p.l.length-1,by have:=Ydf.2 hne;omega⟩
 rw[hm]
 conv=>lhs;unfold goB
 rw[Yab hne,Yab (by simp[he])]
 exact Zags g1 (by omega) (Yaf _)
def Zir (s:ByteArray):List Line×Int×Int:=
 let a:=allB s.data.toList
 if a.2.2≠0 then([],(a.2.1:Nat),a.2.2)
 else
  let r:=goB s.size a.1.length ⟨a.1,[],[]⟩
  if r.2.1≠0 then([],r.1,r.2.1)
  else if r.2.2.opn.length≠0 then([],(s.size:Nat),2)
  else(Zmd r.2.2.nodes.length r.2.2.nodes (-1),0,0)
end Prs
namespace Go.Proofs.Zq
open Tryz
open Go Go.RowKit Go.Sort Tre Lx Prs
theorem Zwu (N:List Nd) (hN:Zrl N) (hup:Zzq N) (hl2:N.length≤200): ∀ (k:Nat) (u:Int),(N.length:Int)≤u+1+k→ ∀ (A:Option Addr) (c:Nat) (W:World),Rd W 4 A N.length (nds N)→
 Calls prog 74 #[.slice A N.length c, .int .i64 u] W (Zct W (Zmd k N u))
 | 0,u,hk,A,c,W,hR=>by
   have h0:=Zaxh hup (u:=u) (by omega)
   have h:=Zum N u hN hl2 A c W hR (fun _=> []) (fun i hi=>by rw[h0]at hi;cases hi) (fun j=>by rw[h0];simp) (fun i hi=>by simp)
   rw[h0]at h;exact h
 | k+1,u,hk,A,c,W,hR=>by
   have h:=Zum N u hN hl2 A c W hR (fun i=>Zmd k N (i:Nat)) (fun i hi W' hb=>Zwu N hN hup hl2 k i (by have:=Zqm hup hi;omega) A c W' (hR.below hb))
    (fun j=>Yat (Zvm hup k u j) hl2) (fun i _=>Yat (Zug hup k _) hl2)
   exact h
theorem Zzw.len {B g:Nat} {en:Int} {p:Pst} {W:World} (h:Zzw B g en p W):Zapn g W=p.l.length:=by
 obtain⟨_,_,_,_,h⟩:=h;exact h.len
def Zamk (s:ByteArray) (w:World) (e:Ending) (w':World):Prop:=
 (∃ v,e= .returned (.tuple #[v, .int .i64 (Zir s).2.1, .int .i64 (Zir s).2.2])∧w'.ownsRow w.heap.size 62 3 v (Zir s).1.length (lines (Zir s).1))∧Below w.heap.size w w'
theorem Zazu (s:ByteArray) (w:World) (hE:Env w) (hs:s.size≤1000000):
 Calls prog 40 #[.string s] w (Zamk s w):=by
 have HA:=Zhd (Zatr s w hE hs);unfold Zamg at HA;obtain⟨a,ha⟩: ∃ a,allB s.data.toList=a:=⟨_,rfl⟩;rw[ha]at HA;obtain⟨R,hR⟩: ∃ R,Zir s=R:=⟨_,rfl⟩
 have HT:Hid (R=if a.2.2≠0 then([],(a.2.1:Int),a.2.2)else
  if(goB s.size a.1.length ⟨a.1,[],[]⟩).2.1≠0 then([],(goB s.size a.1.length ⟨a.1,[],[]⟩).1,(goB s.size a.1.length ⟨a.1,[],[]⟩).2.1)
  else if(goB s.size a.1.length ⟨a.1,[],[]⟩).2.2.opn.length≠0 then([],(s.size:Int),2)
  else(Zmd (goB s.size a.1.length ⟨a.1,[],[]⟩).2.2.nodes.length (goB s.size a.1.length ⟨a.1,[],[]⟩).2.2.nodes (-1),0,0)):=by
  show _=_;rw[←hR];unfold Zir;simp only[ha]
 obtain⟨ts,at_,er⟩:=a;simp only at HT HA;unfold Zamk;rw[hR];clear hE ha hR;go_enter func40,ntmps40;go_wp2_with fail;refine HA.out.mono ?_;rintro e w2 ⟨⟨v,rfl,ho⟩,hb2⟩;obtain⟨Al,cl,rfl,hc1,hc2,hrd,-,-⟩:=Zcr ho;have HB2:=Zhd hb2;clear HA ho hb2;by_cases he:er=0
 · subst he;have qe:((0:Int)!=0)=false:=rfl;obtain⟨w3,hw3⟩: ∃ w3,w2.alloc (.cells #[.slice Al ts.length cl, .int .i64 (s.size:Int), .slice none 0 0, .slice none 0 0] 127)=w3:=⟨_,rfl⟩;have hb3:Below w2.heap.size w2 w3:=by rw[←hw3];exact(Yag _ _).alloc (Yaf _) _
   have hz3:w2.heap.size≤w3.heap.size:=hb3.size
   have HP3:Hid (Zzw w2.heap.size w2.heap.size s.size ⟨ts,[],[]⟩ w3):=
    ⟨Al,cl, .slice none 0 0, .slice none 0 0,by rw[←hw3];exact heap_alloc_new w2 _,Yaf _,hc1,hc2,(RdB.of hrd).below hb3,World.ownsRow_nil _ _ _ _,World.ownsRow_nil _ _ _ _⟩
   have HB3:=Zhd hb3;obtain⟨G,hG⟩: ∃ G,goB s.size ts.length ⟨ts,[],[]⟩=G:=⟨_,rfl⟩;rw[hG]at HT;have HG0:=Zhd hG;clear hb3 hc1 hc2 hrd hG;go_wp2;go_loopw [] (fun wr=> ∃ p:Pst,Hid (Zzw w2.heap.size w2.heap.size s.size p wr)∧Hid (Prs.Good p)∧Hid (goB s.size p.l.length p=G)∧Hid (Below w2.heap.size w2 wr)) (fun wr=>Zapn w2.heap.size wr)
   case atStart=>exact⟨_,HP3,Prs.good_nil _,HG0,HB3⟩
   case round=>
    clear HP3 HG0 HB3;obtain⟨p,HP,HG,HQ,HB⟩:=hrel;have HBw:Hid (Below w.heap.size w wr):=Zaa HB2.out HB.out;have hBs:w2.heap.size≤wr.heap.size:=HB.out.size;by_cases hl:p.l= []
    · have HK:Hid (G=(0,0,p)):=by show _=_;rw[←HQ.out,Zaom _ _ hl]
      obtain⟨Al',cl',vn,vo,hp⟩:=HP.out;obtain⟨⟨An,cn,rfl⟩,Ao,co,rfl⟩:=hp.slices;obtain⟨c0,-,c2,c3⟩:=hp.cells;rw[show p.l.length=0 by rw[hl];rfl]at c0
      have HRn:=Zhd (Rd.of_own hp.2.2.2.2.2.1);by_cases ho:p.opn.length=0
      · have HK2:Hid (R=(Zmd p.nodes.length p.nodes (-1),0,0)):=by show _=_;rw[HT.out,HK.out];simp[ho]
        rw[ho]at c3;have HS:=Zhd (Zwu p.nodes HG.out.ap HG.out.ups HG.out.len p.nodes.length (-1) (by omega) An cn wr HRn.out)
        unfold Zct at HS;clear hl ho hp HP HG HQ HB HT HK HRn;go_wp2_with fail;refine HS.out.mono ?_;rintro e w7 ⟨⟨v7,rfl,ho7⟩,hb7⟩;have HO7:=Zhd (Zkc ho7 HBw.out.size);have HB7:=Zhd (Zaa HBw.out hb7);clear HS ho7 hb7 c0 c2 c3;go_wp2;refine bodyPost_ret (v:= .tuple #[v7, .int .i64 0, .int .i64 0]) (by simp[results,results40,go_sem]) rfl ⟨⟨_,by rw[HK2.out], ?_⟩,HB7.out⟩
        rw[HK2.out];exact HO7.out
      · have HK2:Hid (R=([],(s.size:Int),2)):=by show _=_;rw[HT.out,HK.out];simp[ho]
        have hop:(0:Int)<(p.opn.length:Int):=by omega
        clear hl ho hp HP HG HQ HB HT HK HRn;go_wp2;refine bodyPost_ret (v:= .tuple #[.slice none 0 0, .int .i64 (s.size:Int), .int .i64 2]) (by simp[results,results40,go_sem]) rfl ⟨⟨_,by rw[HK2.out], ?_⟩,HBw.out⟩
        rw[HK2.out];exact World.ownsRow_nil _ _ _ _
    · have hpos:(0:Int)<(p.l.length:Int):=by have:=Ydf.2 hl;omega
      have HS:=Zhd (Zzn w2.heap.size w2.heap.size s.size p wr HP.out hBs HG.out.len);unfold Zvp at HS;have HL:=Zhd HP.out.len
      have c0: ∃ Al' cl',wr.cell? ⟨w2.heap.size,0,none⟩=some (.slice Al' p.l.length cl'):=by
       obtain⟨Al',cl',vn,vo,hp⟩:=HP.out;exact⟨Al',cl',hp.cells.1⟩
      obtain⟨Al',cl',c0⟩:=c0;by_cases hes:(stB s.size p).2.1=0
      · have HN:=Zhd (Ztg HG.out hl hes);have HQ2:Hid (goB s.size (stB s.size p).2.2.l.length (stB s.size p).2.2=G):=by show _=_;rw[←HQ.out,Zagt HG.out hl hes]
        generalize stB s.size p=z at *;obtain⟨z1,z2,z3⟩:=z;simp only at hes HN HQ2 HS;subst hes;clear HP HG HQ hl;go_wp2_with fail;refine HS.out.mono ?_;rintro e w7 ⟨rfl,hp7,hb7⟩;have HP7:=Zhd hp7;have HB7:=Zhd (HB.out.trans hb7);have HL7:=Zhd hp7.len;clear HS hp7 hb7 c0;go_wp2;go_roundw
        case rel=>exact⟨z3,HP7,HN.out.1,HQ2,HB7⟩
        case measure=>rw[HL7.out,HL.out];exact HN.out.2
      · have HK:Hid (G=stB s.size p):=by show _=_;rw[←HQ.out,Zbcg hl hes]
        have HK2:Hid (R=([],(stB s.size p).1,(stB s.size p).2.1)):=by show _=_;rw[HT.out,HK.out];simp[hes]
        have q2:((stB s.size p).2.1 !=0)=true:=by rw[bne_iff_ne];exact hes
        clear HT HK HQ;generalize stB s.size p=z at *;obtain⟨z1,z2,z3⟩:=z;simp only at HK2 HS q2;clear HP HG hl hes;go_wp2_with fail;refine HS.out.mono ?_;rintro e w7 ⟨rfl,hp7,hb7⟩;have HB7:=Zhd (Zaa HB2.out (HB.out.trans hb7));clear HS hp7 hb7 c0;go_wp2;refine bodyPost_ret (v:= .tuple #[.slice none 0 0, .int .i64 z1, .int .i64 z2]) (by simp[results,results40,go_sem]) rfl ⟨⟨_,by rw[HK2.out], ?_⟩,HB7.out⟩
        rw[HK2.out];exact World.ownsRow_nil _ _ _ _
 · have HK:Hid (R=([],(at_:Int),er)):=by show _=_;rw[HT.out,Yam he]
   have qe:(er !=0)=true:=by rw[bne_iff_ne];exact he
   clear HT he;go_wp2;refine bodyPost_ret (v:= .tuple #[.slice none 0 0, .int .i64 (at_:Int), .int .i64 er]) (by simp[results,results40,go_sem]) rfl ⟨⟨_,by rw[HK.out], ?_⟩,HB2.out⟩
   rw[HK.out];exact World.ownsRow_nil _ _ _ _
end Go.Proofs.Zq
namespace Edt
open Go Go.Lib Tre
def Zib (L:List Line) (P:List ByteArray) (n:Nat):Bool:=match Zas L (P.take (n+1))with|some k=>bits .and .i64 (Zck L k).mark 2 !=0|none=>false
def Ztj (L:List Line) (P:List ByteArray):Bool:=(List.range P.length).any (Zib L P)
theorem Zapj (L:List Line) (P:List ByteArray):Ztj L P=(List.range' 0 P.length).any (Zib L P):=by unfold Ztj;rw[List.range_eq_range']
theorem Zapi {L:List Line} {P:List ByteArray} {k:Nat} (h:k<P.length):(List.range' k (P.length-k)).any (Zib L P)=(Zib L P k||(List.range' (k+1) (P.length-(k+1))).any (Zib L P)):=by
 obtain⟨m,hm⟩: ∃ m,P.length-k=m+1:=⟨P.length-k-1,by omega⟩
 rw[hm,List.range'_succ,List.any_cons,show P.length-(k+1)=m by omega]
theorem Zapg {L:List Line} {P:List ByteArray} {k:Nat} (h:Zas L (P.take (k+1))=none):Zib L P k=false:=by unfold Zib;rw[h]
theorem Zaph {L:List Line} {P:List ByteArray} {k j:Nat} (h:Zas L (P.take (k+1))=some j) (hj:j<L.length):Zib L P k=(bits .and .i64 L[j].mark 2 !=0):=by
 unfold Zib;rw[h];simp only;rw[Zcd hj]
end Edt
namespace Go.Proofs.Zq
open Tryz
open Go Go.RowKit Go.Sort Tre Lx Prs Edt
theorem Zyn (A:Option Addr) (cap:Nat) (L:List Line) (Ap:Option Addr) (cp:Nat) (P:List ByteArray) (w:World) (hR:Rd w 3 A L.length (lines L)) (hcap:L.length≤cap) (hc:cap≤maxLen) (hr:Zab L=true) (hP:Rd w 1 Ap P.length (sv P)) (hcp:P.length≤cp) (hc2:cp≤maxLen):
 Calls prog 64 #[.slice A L.length cap, .slice Ap P.length cp] w fun e w'=>e= .returned (.bool (Ztj L P))∧Below w.heap.size w w':=by
 have HF:=Zhd (fun(n:Nat) (hn:n≤P.length) (W:World) (hb:Below w.heap.size w W)=>Zca A cap L Ap cp (P.take n) W (hR.below hb) hcap hc hr (by rw[Yah,Yba hn];exact Zgv (hP.below hb) hn) (by rw[Yah];omega) hc2)
 have HR:=Zhd hR;have HP:=Zhd hP;have HK0:=Zhd (Zapj L P);have h200:=Zau hr;unfold maxLen at hc2 hc;obtain⟨z,hz⟩: ∃ z,Ztj L P=z:=⟨_,rfl⟩;rw[hz]at HK0⊢;clear hR hP hr hz;go_enter func64,ntmps64;go_wp2;go_loopw [10] (fun vi wr=> ∃ k:Nat,vi= .int .i64 k∧k≤P.length∧Hid (z=(List.range' k (P.length-k)).any (Zib L P))∧Hid (Below w.heap.size w wr)) (fun vi _=>P.length-(intOf vi).toNat)
 case atStart=>exact⟨0,rfl,Yas _,HK0,Yag _ _⟩
 case round=>
  clear HK0;obtain⟨k,rfl,hk,HQ,HB⟩:=hrel;by_cases hlt:k<P.length
  · have HC:=Zhd (HF.out (k+1) hlt wr HB.out);have hlen:(P.take (k+1)).length=k+1:=by rw[Yah];omega
    rw[hlen]at HC;have HS:Hid (z=(Zib L P k||(List.range' (k+1) (P.length-(k+1))).any (Zib L P))):=by show _=_;rw[HQ.out,Zapi hlt]
    have hi1:(k:Int)+1≤(cp:Int):=by omega
    have hi0:(0:Int)≤(k:Int)+1:=by omega
    obtain⟨ad,rfl,-,-⟩:=HP.out.2 (by omega)
    clear HQ hlen;cases hf:Zas L (P.take (k+1))with
    | none=>
      rw[hf]at HC;have HN:Hid (z=(List.range' (k+1) (P.length-(k+1))).any (Zib L P)):=by show _=_;rw[HS.out,Zapg hf];rfl
      have HC2:Hid (Calls prog 47 #[.slice A L.length cap, .slice (some ad) (k+1) cp] wr fun e w'=>e= .returned (.tuple #[.int .i64 0, .bool false])∧Below wr.heap.size wr w'):=HC.out
      clear HS hf HC;go_wp2_with fail;refine HC2.out.mono ?_;rintro e w2 ⟨rfl,hb2⟩;have HB2:=Zhd (Zaa HB.out hb2);clear HC2 hb2 HB;go_wp2;go_roundw
      case rel=>exact⟨k+1,by go_num,by omega,HN,HB2⟩
      case measure=>simp[intOf];omega
    | some j=>
      rw[hf]at HC;have hj:=Zcu hf;have HC2:Hid (Calls prog 47 #[.slice A L.length cap, .slice (some ad) (k+1) cp] wr fun e w'=>e= .returned (.tuple #[.int .i64 (j:Int), .bool true])∧Below wr.heap.size wr w'):=HC.out
      have HS2:=Zhd (Zaph hf hj);obtain⟨B,O,rfl,hab,hadd,-,-,y2⟩:=HR.out.line hj;have hj1:(j:Int)<(L.length:Int):=by omega
      have HY:Hid (∀ W,Below w.heap.size w W→W.cell? ⟨B,O+j*3+2,none⟩=some (.int .i64 L[j].mark)):=fun W hb=>(hb.cell (p:=⟨B,O+j*3+2,none⟩) hab).trans y2
      generalize L[j].mark=m at *;clear hf HC y2;cases hq:(bits .and .i64 m 2 !=0)with
      | true=>
        rw[hq]at HS2;have HN:Hid (z=true):=by show _=_;rw[HS.out,HS2.out];rfl
        clear HS HS2;go_wp2_with fail;refine HC2.out.mono ?_;rintro e w2 ⟨rfl,hb2⟩;have HB2:=Zhd (Zaa HB.out hb2);have y2:=HY.out w2 HB2.out;clear HC2 hb2 HB HY;go_wp2;go_ret;exact⟨by rw[HN.out];rfl,HB2.out⟩
      | false=>
        rw[hq]at HS2;have HN:Hid (z=(List.range' (k+1) (P.length-(k+1))).any (Zib L P)):=by show _=_;rw[HS.out,HS2.out];rfl
        clear HS HS2;go_wp2_with fail;refine HC2.out.mono ?_;rintro e w2 ⟨rfl,hb2⟩;have HB2:=Zhd (Zaa HB.out hb2);have y2:=HY.out w2 HB2.out;clear HC2 hb2 HB HY;go_wp2;go_roundw
        case rel=>exact⟨k+1,by go_num,by omega,HN,HB2⟩
        case measure=>simp[intOf];omega
  · have hke:k=P.length:=by omega
    have HN:Hid (z=false):=by show _=_;rw[HQ.out,hke,Yel];rfl
    clear HQ;go_wp2;go_ret;exact⟨by rw[HN.out];rfl,HB.out⟩
end Go.Proofs.Zq
namespace Edt
open Go Go.Lib Tre
def Zqv (L:List Line) (P:List ByteArray):Bool:=Ztj L P.dropLast
def Zvj (L:List Line) (P:List ByteArray):Int×Int×Int:=
 if P.length=0 then(0,0,1)else match Zas L P with|none=>(0,0,3)|some k=>((k:Int),(endB L k:Int),0)
theorem Zpe {L:List Line} {P:List ByteArray} (h:P.length=0):Zvj L P=(0,0,1):=by unfold Zvj;rw[Yam h]
theorem Zlx {L:List Line} {P:List ByteArray} (h:P.length≠0) (hf:Zas L P=none):Zvj L P=(0,0,3):=by unfold Zvj;rw[Yab h,hf]
theorem Zly {L:List Line} {P:List ByteArray} {k:Nat} (h:P.length≠0) (hf:Zas L P=some k):Zvj L P=((k:Int),(endB L k:Int),0):=by unfold Zvj;rw[Yab h,hf]
end Edt
namespace Go.Proofs.Zq
open Tryz
open Go Go.RowKit Go.Sort Tre Lx Prs Edt
theorem Zzx (A:Option Addr) (cap:Nat) (L:List Line) (Ap:Option Addr) (cp:Nat) (P:List ByteArray) (w:World) (hR:Rd w 3 A L.length (lines L)) (hcap:L.length≤cap) (hc:cap≤maxLen) (hr:Zab L=true) (hP:Rd w 1 Ap P.length (sv P)) (hcp:P.length≤cp) (hc2:cp≤maxLen) (h0:P.length≠0):
 Calls prog 69 #[.slice A L.length cap, .slice Ap P.length cp] w fun e w'=>e= .returned (.bool (Zqv L P))∧Below w.heap.size w w':=by
 obtain⟨m,hm⟩: ∃ m,P.length=m+1:=⟨P.length-1,by omega⟩
 have hd:P.dropLast.length=m:=by rw[Ycb];omega
 have ht:P.dropLast=P.take m:=by rw[Ydc,hm];rfl
 have hKe:=Zyn A cap L Ap cp P.dropLast w hR hcap hc hr (by rw[hd,ht];exact Zgv hP (by omega)) (by omega) hc2
 rw[hd]at hKe;have HK:=Zhd hKe;have hi1:(m:Int)≤(cp:Int):=by omega
 have hi0:(0:Int)≤(m:Int):=by omega
 unfold maxLen at hc2;have hm63:(m:Int)+1≤9223372036854775807:=by omega
 have hmx:max (m:Int) 0=m:=Int.max_eq_left hi0;obtain⟨ad,rfl,-,-⟩:=hP.2 (by omega)
 unfold Zqv;generalize Ztj L P.dropLast=z at *;rw[hm];clear hKe hR hP hr hd ht hm hcp;go_enter func69,ntmps69;go_wp2_with fail;refine HK.out.mono ?_;rintro e w2 ⟨rfl,hb2⟩;go_wp2;go_ret;exact⟨rfl,hb2⟩
theorem Zrx (A:Option Addr) (cap:Nat) (L:List Line) (Ap:Option Addr) (cp:Nat) (P:List ByteArray) (w:World) (hR:Rd w 3 A L.length (lines L)) (hcap:L.length≤cap) (hc:cap≤maxLen) (hr:Zab L=true) (hP:Rd w 1 Ap P.length (sv P)) (hcp:P.length≤cp) (hc2:cp≤maxLen):
 Calls prog 65 #[.slice A L.length cap, .slice Ap P.length cp] w fun e w'=>e= .returned (.tuple #[.int .i64 (Zvj L P).1, .int .i64 (Zvj L P).2.1, .int .i64 (Zvj L P).2.2])∧Below w.heap.size w w':=by
 have hRi:=Zbm A cap L w hR hcap hc;rw[hr]at hRi;have HRi:=Zhd hRi;have HF:=Zhd (fun(W:World) (hb:Below w.heap.size w W)=>Zca A cap L Ap cp P W (hR.below hb) hcap hc hr (hP.below hb) hcp hc2)
 have HE:=Zhd (fun(k:Nat) (hk:k<L.length) (W:World) (hb:Below w.heap.size w W)=>Zaaq A cap L k W (hR.below hb) hcap hc hr hk)
 obtain⟨z,hz⟩: ∃ z,Zvj L P=z:=⟨_,rfl⟩;have HZ:=Zhd hz;rw[hz];clear hR hr hP hz hRi;by_cases h0:P.length=0
 · have HK:Hid (z=(0,0,1)):=by show _=_;rw[←HZ.out,Zpe h0]
   rw[h0];clear HZ HF HE h0 hcp;go_enter func65,ntmps65;go_wp2_with fail;refine HRi.out.mono ?_;rintro e w2 ⟨rfl,hb2⟩;go_wp2;refine bodyPost_ret (v:= .tuple #[.int .i64 0, .int .i64 0, .int .i64 1]) (by simp[results,results65,go_sem]) rfl ⟨by rw[HK.out],hb2⟩
 · have hne:((P.length:Int)==0)=false:=by rw[Yak];omega
   cases hf:Zas L P with
   | none=>
     have HK:Hid (z=(0,0,3)):=by show _=_;rw[←HZ.out,Zlx h0 hf]
     rw[hf]at HF;have HF2:Hid (∀ W,Below w.heap.size w W→Calls prog 47 #[.slice A L.length cap, .slice Ap P.length cp] W fun e w'=>e= .returned (.tuple #[.int .i64 0, .bool false])∧Below W.heap.size W w'):=HF.out
     clear HZ HF HE hf;go_enter func65,ntmps65;go_wp2_with fail;refine HRi.out.mono ?_;rintro e w2 ⟨rfl,hb2⟩;have HC:=Zhd (HF2.out w2 hb2);have HB2:=Zhd hb2;clear hb2;go_wp2_with fail;refine HC.out.mono ?_;rintro e w3 ⟨rfl,hb3⟩;have HB3:=Zhd (Zaa HB2.out hb3);go_wp2;refine bodyPost_ret (v:= .tuple #[.int .i64 0, .int .i64 0, .int .i64 3]) (by simp[results,results65,go_sem]) rfl ⟨by rw[HK.out],HB3.out⟩
   | some k=>
     have hk:=Zcu hf;have HK:Hid (z=((k:Int),(endB L k:Int),0)):=by show _=_;rw[←HZ.out,Zly h0 hf]
     rw[hf]at HF;have HF2:Hid (∀ W,Below w.heap.size w W→Calls prog 47 #[.slice A L.length cap, .slice Ap P.length cp] W fun e w'=>e= .returned (.tuple #[.int .i64 (k:Int), .bool true])∧Below W.heap.size W w'):=HF.out
     have HE2:=Zhd (HE.out k hk);clear HZ HF HE hf;go_enter func65,ntmps65;go_wp2_with fail;refine HRi.out.mono ?_;rintro e w2 ⟨rfl,hb2⟩;have HC:=Zhd (HF2.out w2 hb2);have HB2:=Zhd hb2;clear hb2;go_wp2_with fail;refine HC.out.mono ?_;rintro e w3 ⟨rfl,hb3⟩;have HB3:=Zhd (Zaa HB2.out hb3);have HD:=Zhd (HE2.out w3 HB3.out);go_wp2_with fail;refine HD.out.mono ?_;rintro e w4 ⟨rfl,hb4⟩;have HB4:=Zhd (Zaa HB3.out hb4);go_wp2;refine bodyPost_ret (v:= .tuple #[.int .i64 (k:Int), .int .i64 (endB L k:Int), .int .i64 0]) (by simp[results,results65,go_sem]) rfl ⟨by rw[HK.out],HB4.out⟩
end Go.Proofs.Zq
