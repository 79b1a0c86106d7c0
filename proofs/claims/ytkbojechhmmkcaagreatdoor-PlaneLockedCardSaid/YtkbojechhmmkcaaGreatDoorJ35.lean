import Derived.Test.YtkbojechhmmkcaaGreatDoorJ34
set_option linter.unusedVariables false
set_option linter.unusedSimpArgs false
set_option maxHeartbeats 1000000
namespace Go.Proofs.Zq
open Tryz
open Go Go.RowKit Go.Sort Tre Lx Prs Lns Edt Sch
theorem Zacx {P:Program} {ops:Array Oper} {rest:List Oper} {o:Oper} {a:Act} {Q:Exit→Act→World→Prop} (hgd:o.guard=none) (s x:Operand) (t:TypeId)
 (ho:o.op= .call {callee:= .builtin .append,args:= #[s,x],argTypes:= #[t,t]})
 (w0 wr:World) (e:TypeId) (i:TypeInfo) (z:Value) (size bytes:Nat) (ht:P.underlying t=some (.slice e)) (hi:P.info? e=some i) (hz:i.zero=some z)
 (hsize:i.size=size) (hby:i.bytes=bytes) (hzs:z.cells.size=size) (hsz:0<size) (hb64:bytes≤128)
 {v:Value} {n:Nat} {xs:List Value} (hown:wr.ownsRow w0.heap.size e size v n xs) (hb:Below w0.heap.size w0 wr) (hs:a.eval s=v)
 (A:Option Addr) (m c:Nat) (news:List Value) (hx:a.eval x= .slice A m c) (hR:Rd wr size A m news) (hnil:A=none→c=0) (h1: ∀ u∈news,u.oneCell'=true)
 (hN:n+m≤1000000000)
 (h: ∀ v' w',w'.ownsRow w0.heap.size e size v' (n+m) (xs++news)→Below w0.heap.size w0 w'→wpList P ops Q rest (a.put o.dst v') w'):
 wpList P ops Q (o::rest) a wr:=by
 have hbytes:(n+m)*bytes≤140737488355328:=Yas (Yde hN hb64) (by decide)
 rcases A with _|ad
 · have hm:m=0:=by
    rcases Ybn m with h0|h0
    · exact h0
    · obtain⟨ad,h,-⟩:=hR.2 h0;cases h
   subst hm;have hn:news= []:=Yar (by simpa using hR.1)
   subst hn;obtain rfl:=hnil rfl;exact wpList_append_own_none hgd s x t ho w0.heap.size e i size ht hi v n xs hs hown hx (h v wr (by simpa using hown) hb)
 · refine wpList_append_own _ hgd s x t ho w0.heap.size e i z size bytes ht hi hz hsize hby hzs hsz v n xs hs hown ad m c news hx hR.1 ?_ h1 (by unfold maxLen;omega) hbytes hb.size ?_
   · intro j u hu;obtain⟨ad',e',-,hc⟩:=hR.cell hu;injection e' with e'
     subst e';exact hc
   · intro v' w' hown' hg _;exact h v' w' hown' (hb.grown hg hb.size fun q hq=>(hown.lt q hq).1)
theorem Zacw {P:Program} {ops:Array Oper} {rest:List Oper} {o:Oper} {a:Act} {Q:Exit→Act→World→Prop} (hgd:o.guard=none) (s x:Operand) (t:TypeId)
 (ho:o.op= .call {callee:= .builtin .append,args:= #[s,x],argTypes:= #[t,t]})
 (w0 wr:World) (e:TypeId) (i:TypeInfo) (z:Value) (size bytes:Nat) (ht:P.underlying t=some (.slice e)) (hi:P.info? e=some i) (hz:i.zero=some z)
 (hsize:i.size=size) (hby:i.bytes=bytes) (hzs:z.cells.size=size) (hsz:0<size) (hb64:bytes≤128)
 {v:Value} {n:Nat} {xs:List Value} (hown:wr.ownsRow w0.heap.size e size v n xs) (hb:Below w0.heap.size w0 wr) (hs:a.eval s=v)
 (m c:Nat) (news:List Value) (hx:a.eval x= .slice (some ⟨wr.heap.size,0,none⟩) m c) (hl:news.length=m*size) (h1: ∀ u∈news,u.oneCell'=true)
 (hN:n+m≤1000000000)
 (h: ∀ v' w',w'.ownsRow w0.heap.size e size v' (n+m) (xs++news)→Below w0.heap.size w0 w'→wpList P ops Q rest (a.put o.dst v') w'):
 wpList P ops Q (o::rest) a (wr.alloc (.cells news.toArray e)):=by
 have hbytes:(n+m)*bytes≤140737488355328:=Yas (Yde hN hb64) (by decide)
 refine wpList_append_own _ hgd s x t ho w0.heap.size e i z size bytes ht hi hz hsize hby hzs hsz v n xs hs (hown.alloc _) ⟨wr.heap.size,0,none⟩ m c news hx hl ?_ h1 (by unfold maxLen;omega) hbytes (Yas hb.size (by simp)) ?_
 · intro j u hu;have hj:j<news.length:=(Yba.1 hu).1;rw[Zag,Ybj,World.cell?_alloc_at _ _ _ _ rfl];simpa using hu
 · intro v' w' hown' hg _;refine h v' w' hown' ((hb.alloc hb.size _).grown hg (Yas hb.size (by simp)) fun q hq=>(hown.lt q hq).1)
theorem Zakz:(prog.info? 36).map (fun i=>(i.zero,i.size,i.bytes))=some (some (.agg #[.int .i64 0, .int .i64 0, .slice none 0 0, .string ⟨#[]⟩, .int .i64 0, .int .i64 0, .string ⟨#[]⟩]),7,88):=by kernel_rfl
theorem Zaek (a b:List OpM):opcs (a++b)=opcs a++opcs b:=by unfold opcs;rw[Ycg]
theorem Zpx (L:List OpM): ∀ u∈opcs L,u.oneCell'=true:=by
 intro u hu;unfold opcs at hu;obtain⟨x,-,hx⟩:=Ydf.1 hu;unfold OpM.cells at hx;simp only[Yax,Yby,or_false]at hx;rcases hx with h|h|h|h|h|h|h<;>subst h<;>rfl
theorem Zyz {w:World} {A:Option Addr} {L:List OpM} (h:Ops w A L) {n:Nat} (hn:n≤L.length):Rd w 7 A n (opcs (L.take n)):=by
 refine⟨by rw[Zix,Yaf];congr 1;omega,fun h0=> ?_⟩
 obtain⟨ad,e,hb,hx⟩:=h.1.2 (by omega)
 refine⟨ad,e,hb,fun j u hu=>hx j u ?_⟩
 have e2:opcs L=opcs (L.take n)++opcs (L.drop n):=by rw[←Zaek,Ybh]
 rw[e2,Yca (Yba.1 hu).1];exact hu
theorem Ops.app {w w':World} {A:Option Addr} {L X:List OpM} {n B:Nat} {v:Value} (h:Ops w A L) (hn:n≤L.length) (hb:Below w.heap.size w w')
 (ho:w'.ownsRow B 36 7 v (n+X.length) (opcs (L.take n)++opcs X)) (hX: ∀ x∈X,x.Ok w'):
 ∃ A' c',v= .slice A' (L.take n++X).length c'∧(L.take n++X).length≤c'∧c'≤maxLen∧Ops w' A' (L.take n++X):=by
 obtain⟨A',c',h1,h2,h3,h4⟩:=Zbe ho;have hl:(L.take n++X).length=n+X.length:=by rw[Yak,Yaf];congr 1;omega
 rw[hl];refine⟨A',c',h1,h2,h3,by rw[hl,Zaek];exact h4,fun x hx=> ?_⟩
 rcases Ybl.1 hx with hx|hx
 · exact(h.2 x (Yew hx)).below hb
 · exact hX x hx
def opM (kind who n:Int):OpM:=⟨⟨kind,[],⟨#[]⟩,0,n,⟨#[]⟩⟩,who,none,0⟩
theorem Zamf (w:World) (kind who n:Int) (h: -9223372036854775808≤n∧n≤9223372036854775807):(opM kind who n).Ok w:=⟨Rd.nil,Yag _,Yao _,h⟩
theorem Zant {p:List ByteArray} (h:Zii p=true):p.length≤1000000:=by
 unfold Zii at h;simp only[Yat,Yap]at h;omega
theorem Zayc {o:Opp} (h:opOk o=true):o.path.length≤1000000∧o.text.size≤1000000:=by
 unfold opOk at h;simp only[Yat,Yap]at h;exact⟨Zant h.1.1,by omega⟩
theorem Zaar {L:List OpM} {m:Nat} (h: ¬ fewO L m<0):fewO L m=((min L.length m:Nat):Int)∧ ∀ x∈L.take (min L.length m),x.o.path.length≤1000000∧x.o.text.size≤1000000:=by
 obtain⟨h1,h2⟩:=Zaqd h;refine⟨h1,fun x hx=>Zayc (h2 x ?_)⟩
 rwa [show L.take (min L.length m)=L.take m by rw[List.take_eq_take_iff];omega]at hx
theorem Zih (v1 v2:Value) (L:List Line) (w:World) (h1:Lr w v1 L) (h2:Lr w v2 L):
 Calls prog 12 #[v1,v2] w fun e w'=>e= .returned (.bool true)∧Below w.heap.size w w':=by
 obtain⟨A,c,rfl,hc,hm,hR,-⟩:=h1;obtain⟨A2,c2,rfl,hc2,-,hR2,-⟩:=h2;unfold maxLen at hm;have HR:=Zhd hR;have HR2:=Zhd hR2;clear hR hR2;go_enter func12,ntmps12;go_wp2;go_loopw [5] (fun vi wr=> ∃ k:Nat,k≤L.length∧vi= .int .i64 k∧Below w.heap.size w wr) (fun vi _=>L.length-(intOf vi).toNat)
 case atStart=>exact⟨0,Yao _,rfl,Yae _ _⟩
 case round=>
  obtain⟨k,hk,rfl,hbw⟩:=hrel;by_cases hlt:k<L.length
  · obtain⟨B,O,rfl,hB,hadd,x0,x1,x2⟩:=(HR.out.below hbw).line hlt;obtain⟨B2,O2,rfl,hB2,hadd2,y0,y1,y2⟩:=(HR2.out.below hbw).line hlt;generalize L[k]=a at *;obtain⟨d1,s1,m1⟩:=a;have e4:(s1.toList==s1.toList)=true:=by rw[beq_iff_eq]
    go_wp2_with fail;go_region_held3 (fun W=>W.cell? ⟨B,O+k*3,none⟩=some (.int .i64 d1)∧W.cell? ⟨B,O+k*3+1,none⟩=some (.string s1)∧W.cell? ⟨B,O+k*3+2,none⟩=some (.int .i64 m1)∧W.cell? ⟨B2,O2+k*3,none⟩=some (.int .i64 d1)∧W.cell? ⟨B2,O2+k*3+1,none⟩=some (.string s1)∧W.cell? ⟨B2,O2+k*3+2,none⟩=some (.int .i64 m1)) (go_keep) ((fail))
    go_wp2_with fail;go_roundw
    case rel=>
     exact⟨k+1,by omega,by go_num,hbw.drew⟩
    case measure=>simp[intOf];omega
  · have hke:k=L.length:=by omega
    subst hke;go_wp2;go_ret;exact⟨rfl,hbw⟩
end Go.Proofs.Zq
