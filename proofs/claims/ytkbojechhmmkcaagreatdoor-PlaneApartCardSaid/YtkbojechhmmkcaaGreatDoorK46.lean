import Derived.Test.YtkbojechhmmkcaaGreatDoorCards
import Derived.Test.YtkbojechhmmkcaaGreatDoorTie
import Derived.ProofKit
import Derived.OpenShut
import Derived.Carry
import Derived.Lay
import Derived.MakeChecks
import Derived.Deep.DeepHandedRow
import Derived.Deep.DeepWitnessRowRef
import Derived.Stop.LaidErr
import Derived.SevenTiedAt
import Derived.Shelf.Vars
import Derived.Test.YtkbojechhmmkcaaGreatDoorK01
set_option linter.unusedVariables false
set_option linter.unusedSimpArgs false
namespace Go.Proofs.YtkbojechhmmkcaaGreatDoor
open _root_.Go.Proofs.Tryz Zq
open Go Go.ChangeShapes Go.WideShapes Go.ChangeAt Go.RowKit
section
variable {H:Type} {enc:TypeId×Value→H} {P:Program} {W W':World}
theorem Zaaf (hl:laidOutB P=true) (hb:Below W.heap.size W W'): ∀ (ts:List TypeId) (vs:List Value) (ds:List (DataW H)) (ps:List MemPlace),
 ts.all (fun t=>P.readableRec t&&decide (t<P.types.size))=true→(∀ x∈ps,x.block<W.heap.size)→DataW.TrodAll enc P W 0 (fun _=>true) true ts vs ds ps→
 DataW.TrodAll enc P W' 0 (fun b=>decide (b<W.heap.size)) true ts vs ds ps
 | [],vs,ds,ps,_,_,h=>by
   obtain⟨rfl,rfl,rfl⟩:=trodAll_nil h;exact trodAll_mk0
 | t::ts,vs,ds,ps,ht,hlt,h=>by
   obtain⟨v,vs',d,ds',p,q,rfl,rfl,rfl,h0,h1⟩:=trodAll_cons h;simp only[Ydd,Yaq,Yao]at ht
   exact trodAll_cons_mk (Below.trod hl ht.1.1 ht.1.2 h0 hb fun x hx=>hlt x (List.mem_append_left _ hx))
    (Zaaf hl hb ts vs' ds' q (by simpa using ht.2) (fun x hx=>hlt x (List.mem_append_right _ hx)) h1)
theorem post_true {f:Func} {s:ChangeSpec} {args:Array Value} {ds gs:List (DataW H)} {before:List MemPlace} {tb:TypeId} (hl:laidOutB P=true)
 (hW:DataW.Whole enc P f.params.toList s.vars false W args.toList ds gs before)
 (hro:f.params.toList.all (fun t=>P.readableRec t&&decide (t<P.types.size))=true)
 (hres:f.resultTypes= #[tb]) (htb:P.underlying tb=some .bool) (hsv:s.vars= [])
 (hs:s.fn H (ds++gs)={results:= [.lit (.bool true)],args:=ds}) (hb:Below W.heap.size W W'):s.post enc P f false true false false W args (.bool true) W':=by
 have hW':=hW;have hlt: ∀ p∈before,p.block<W.heap.size:=fun p hp=>hW.lt p hp
 obtain⟨p,q,hA,hV,rfl,_,_⟩:=hW;rw[hsv]at hV;obtain⟨rfl,rfl⟩:=trodVars_none hV;have hA':=Zaaf hl hb _ _ _ _ hro (fun x hx=>hlt x (by simpa using hx)) hA
 refine⟨ds,[],p++ [],[],p,[],hW', ?_, ?_, ?_, ?_,fun h=>by cases h⟩
 · rw[hs,hres];exact trodAll_mk1 (shut_bool htb true)
 · rw[hs];exact hA'
 · rw[hs,hsv];rfl
 · exact hb.frame _
end
theorem own:ownKnob prog.godebug=none:=by kernel_rfl
theorem laidOut:laidOutB prog=true:=by kernel_rfl
abbrev Zpk:List (String×DataW Unit):=Rows.planeTimerRow.laid
theorem Zwt (W:World):laidMetH prog Zpk W=laidMet prog Zpk W:=MakeChecks.laidMetH_plain _ _ _ (by kernel_rfl)
theorem gMax:prog.globalNamed "internal/bytealg.MaxLen" =some 0:=by kernel_rfl
theorem Zbam:prog.globalNamed "strconv.ErrRange" =some 5:=by kernel_rfl
theorem Zaoi:prog.globalNamed "strconv.ErrSyntax" =some 4:=by kernel_rfl
theorem Zakd:(prog.globals[5]?).map (·.type)=some 224:=by kernel_rfl
theorem Zady:(prog.globals[4]?).map (·.type)=some 224:=by kernel_rfl
theorem Zawt:(prog.globals[6]?).map (·.type)=some 313:=by kernel_rfl
theorem Zavo:prog.cellsOf 313=20:=by kernel_rfl
theorem Zavp:prog.cellsOf 213=1:=by kernel_rfl
theorem Zage:prog.cellsOf 311=1:=by kernel_rfl
theorem Zagf:prog.cellsOf 9=1:=by kernel_rfl
theorem Zaoc: "*" ++ "errors.errorString" = "*errors.errorString" :=by decide
theorem Zago (u:TypeId) (h:prog.typeName? 3 u=some "*errors.errorString"):u=309:=
 typeName_ptr_named (nm:= "errors.errorString") (by rw[Zaoc];kernel_rfl) (by kernel_rfl) (by decide) u (by rw[Zaoc];exact h)
theorem env_of {W:World} (hsh:W.ShapedOpen prog) (hL:laidMetH prog Zpk W):Env W:=by
 rw[Zwt]at hL;have hp:=Lib.tabIs_of_head (zs:=Lib.pow10Tab) gPow Zawt underlying313 underlying213 Zavp Zavo hL.tail.tail;obtain⟨a1,s1,hv1,_⟩:=laid_sentinel hL.tail.tail.tail.tail Zbam Zakd underlying224 Zago underlying309 underlying311 rfl rfl underlying9 Zage Zagf;obtain⟨a2,s2,hv2,_⟩:=laid_sentinel hL.tail.tail.tail.tail.tail Zaoi Zady underlying224 Zago underlying309 underlying311 rfl rfl underlying9 Zage Zagf
 exact⟨cell_of_shapedOpen_int (zero:= #[.int .i64 0]) (t:=3) hsh (of_decide_eq_true (by kernel_rfl)) (by kernel_rfl) rfl (by kernel_rfl) (by kernel_rfl) underlying3,
  ⟨_,_,by simpa using World.var?_cell Zaoi hv2 0⟩,⟨_,_,by simpa using World.var?_cell Zbam hv1 0⟩,hp⟩
noncomputable def seatWorld (os:Os):World:=World.laidAll prog os Zpk
theorem seatWorld_met (os:Os) (args:Array Value):laidMetH prog Zpk ((seatWorld os).forCall (fun _ _=>0) ⟨#[],args,[]⟩).memory:=by
 rw[Zwt];exact laidMet_laidAll _ (by kernel_rfl) (by kernel_rfl)
theorem seat_shaped (os:Os) (args:Array Value):((seatWorld os).forCall (fun _ _=>0) ⟨#[],args,[]⟩).Shaped prog:=World.shaped_of_ZipB (by kernel_rfl) (by kernel_rfl)
theorem witness_rowS {H:Type} {enc:TypeId×Value→H} {C:Checked} {os:Os} {f:FuncId} {fn:Func} {s:OpenSpec} {conds:List PathCond} {Zrl:Bool} {laid:List (String×DataW Unit)} (modest:Bool) (w0:World) (args:Array Value) (hos:w0.os=os)
 (hsh:(w0.forCall (fun _ _=>0) ⟨#[],args,[]⟩).Shaped C.prog)
 (hok:Input.okWideB C.prog (w0.forCall (fun _ _=>0) ⟨#[],args,[]⟩) f ⟨#[],args,[]⟩=true)
 (hrow:s.preRow enc C.prog fn conds Zrl laid (w0.forCall (fun _ _=>0) ⟨#[],args,[]⟩).memory args):
 ∃ (w:World) (tape:Tape) (i:Input),w.os=os∧(w.forCall tape i).Shaped C.prog∧i.vars= []∧Input.okWide C.prog (w.forCall tape i) .any w.heap.size f i∧
   s.preRow enc C.prog fn conds Zrl laid (w.forCall tape i).memory i.args∧({modest:=modest}:Assume).holds C.prog (lone (Frame.enter C.prog f i.args .normal) [] (w.forCall tape i)):=
 ⟨w0,fun _ _=>0,⟨#[],args,[]⟩,hos,hsh,(Input.okWide_of_okWideB (base:=0) hok).1,(Input.okWide_of_okWideB hok).2,hrow,by
  simp only[Assume.holds];exact⟨by simp,by simp,fun _=>Modest.zero,by simp,by simp⟩⟩
end Go.Proofs.YtkbojechhmmkcaaGreatDoor
