import Derived.Below
import Derived.Lib.Hide
import Derived.Shelf.Strings.Builder1
import Derived.Shelf.Strings.Builder2
import Derived.Shelf.Strings.OnBuilder
import Derived.Shelf.Strings.Trim
import Derived.Shelf.Small.Utf8
import Derived.Shelf.Small.Bits
import Derived.Shelf.Small.Strs
import Derived.Shelf.Small.Wraps
import Derived.Shelf.Strings.BuilderF
import Derived.Shelf.Strings.BuilderK
import Derived.Shelf.Utf8.RuneCount
import Derived.Shelf.Strings.Builder2Cap
import Derived.Shelf.Strconv.Atoi
import Derived.Shelf.Strconv.Itoa0
import Derived.Shelf.Strconv.Itoa1
import Derived.Shelf.LaysM
import Derived.Shelf.Strconv.Itoa2
import Derived.Shelf.Strconv.Itoa3
import Derived.Shelf.Strconv.AtoiErrFast
import Derived.Shelf.Strconv.ParseIntEmpty
import Derived.Shelf.Strconv.AtoiFail
import Derived.Shelf.Strconv.Clone
import Derived.Shelf.Strconv.SyntaxError
import Derived.Shelf.LaysC
import Derived.Shelf.Strconv.ToError
import Derived.Shelf.Strconv.AtoiErr
import Derived.Shelf.Strconv.ErrVar
import Derived.Shelf.Strconv.Lower
import Derived.Shelf.Strconv.ParseUint10
import Derived.Shelf.Strconv.ParseUint10Empty
import Derived.Shelf.Strconv.ParseUint10Any
import Derived.Shelf.Strconv.ParseInt10
import Derived.Shelf.Strconv.AtoiLong
import Derived.Shelf.Strconv.AtoiInnerAll
import Derived.Shelf.Strconv.RangeError
import Derived.Shelf.Strconv.ToErrorRange
import Derived.Shelf.Strconv.AtoiAll
import Derived.Shelf.Strconv.ErrVarAll
import Derived.Shelf.Strconv.ParseUintEmpty
import Derived.Shelf.Strconv.ParseUint10b64
import Derived.Shelf.Strconv.ParseUint10b32
import Derived.Shelf.Strconv.ParseUint10b16
import Derived.Shelf.Strconv.ParseUint10b8
import Derived.Shelf.Strconv.ParseUint10At
import Derived.Shelf.Strconv.ParseInt10At64
import Derived.Shelf.Strconv.ParseInt10At32
import Derived.Shelf.Strconv.ParseInt10At16
import Derived.Shelf.Strconv.ParseInt10At8
import Derived.Shelf.Strconv.ParseInt10All
import Derived.Ground.MpProg
import Derived.Shelf.Pu.ParseUintPublic10
import Derived.Shelf.Pu.ErrVarParseUint
import Derived.Shelf.Strings.Search1
import Derived.Shelf.Strings.Search2
import Derived.Shelf.Strings.Search3
import Derived.Shelf.Strings.Cut
import Derived.Shelf.Strings.Count
import Derived.Shelf.Strings.Shaped
import Derived.Shelf.Strings.Prefix
import Derived.Shelf.Strings.Split
import Derived.Shelf.Strings.Replace
import Derived.Shelf.Strings.SplitShaped
import Derived.Shelf.Unicode.Decode
import Derived.Shelf.Strings.Runes
import Derived.Shelf.Strings.RuneCount
import Derived.Shelf.Strings.AsciiSet
import Derived.Shelf.Strings.Explode
import Derived.Shelf.Bits.Mul64
import Derived.Shelf.Strings.Repeat
import Derived.Shelf.Unicode.DecodeSlow
import Derived.Shelf.Unicode.DecodeAny
import Derived.Shelf.Unicode.DecodeLast
import Derived.Shelf.Strings.BuilderCap
import Derived.Shelf.Slices.Turned
import Derived.Shelf.Slices.Equal
import Derived.Ground.Names2Prog
import Derived.Shelf.Slices.ReverseS
import Derived.Shelf.Slices.Clone
import Derived.Shelf.Slices.Cells
import Derived.Shelf.Slices.Empties2
import Derived.Ground.SlsfProg
import Derived.Shelf.SlSortCmp.Insertion
import Derived.Shelf.SlSortCmp.SiftDown1
import Derived.Shelf.SlSortCmp.HeapSort1
import Derived.Shelf.SlSortCmp.Insertion1
import Derived.Shelf.SlSortCmp.Median1
import Derived.Shelf.SlSortCmp.Pivot1
import Derived.Shelf.SlSortCmp.ReverseRange1
import Derived.Shelf.SlSortCmp.PartialInsertion1
import Derived.Shelf.SlSortCmp.PartitionEqual1
import Derived.Shelf.SlSortCmp.Partition1
import Derived.Shelf.SlSortCmp.Pdq1
import Derived.Shelf.SlSortCmp.Whole1
import Derived.Shelf.SlSortCmp.NoneTotal
import Derived.Test.YtkbojechhmmkcaaGreatDoorProg
set_option linter.unusedVariables false
set_option linter.unusedSimpArgs false
theorem Zpu {α:Type}:(∀ (l:List α) (i:Nat) (v:α),l.toArray.setIfInBounds i v=(l.set i v).toArray)∧(∀ (a:α) (l:List α) (v:α),(a::l).set 0 v=v::l)∧(∀ (a:α) (l:List α) (n:Nat) (v:α),(a::l).set (n+1) v=a::l.set n v):=
 ⟨fun _ _ _=>by simp,fun _ _ _=>rfl,fun _ _ _ _=>rfl⟩
theorem Zhd {p:Prop} (h:p):Go.RowKit.Hid p:=Go.Lib.hid h
abbrev Yaa:= @List.setIfInBounds_toArray
abbrev Yab:= @if_neg
abbrev Yac:= @List.set_cons_zero
abbrev Yad:= @List.set_cons_succ
abbrev Yae:= @List.length_append
abbrev Yaf:= @Nat.le_refl
abbrev Yag:= @Go.RowKit.Below.refl
abbrev Yah:= @List.length_take
abbrev Yai:= @decide_eq_false
abbrev Yaj:= @List.getElem?_eq_getElem
abbrev Yak:= @beq_eq_false_iff_ne
abbrev Yal:= @decide_eq_true
abbrev Yam:= @if_pos
abbrev Yan:= @List.length_drop
abbrev Yao:= @decide_eq_true_eq
abbrev Yap:= @List.eq_nil_of_length_eq_zero
abbrev Yaq:= @Bool.and_eq_true
abbrev Yar:= @List.getD_eq_getElem?_getD
abbrev Yas:= @Nat.zero_le
abbrev Yat:= @Nat.le_trans
abbrev Yau:= @Array.length_toList
abbrev Yav:= @List.mem_cons
abbrev Yaw:= @List.getElem_mem
abbrev Yax:= @List.take_succ_eq_append_getElem
abbrev Yay:= @List.length_map
abbrev Yaz:= @List.drop_eq_getElem_cons
abbrev Yba:= @Nat.min_eq_left
abbrev Ybb:= @List.getElem?_eq_some_iff
abbrev Ybc:= @List.append_assoc
abbrev Ybd:= @List.length_cons
abbrev Ybe:= @List.drop_eq_nil_of_le
abbrev Ybf:= @Array.getElem?_eq_some_iff
abbrev Ybg:= @List.append_nil
abbrev Ybh:= @List.take_of_length_le
abbrev Ybi:= @Nat.zero_add
abbrev Ybj:= @Nat.eq_zero_or_pos
abbrev Ybk:= @List.take_append_drop
abbrev Ybl:= @List.flatMap_cons
abbrev Ybm:= @List.getElem?_append_right
abbrev Ybn:= @List.mem_append
abbrev Ybo:= @Array.all_eq_true_iff_forall_mem
abbrev Ybp:= @Nat.lt_or_ge
abbrev Ybq:= @List.not_mem_nil
abbrev Ybr:= @Int.toNat_natCast
abbrev Ybs:= @List.getElem_of_mem
abbrev Ybt:= @List.all_eq_true
abbrev Ybu:= @List.mem_singleton
abbrev Ybv:= @List.map_append
abbrev Ybw:= @List.take_length
abbrev Ybx:= @UInt8.toNat_inj
abbrev Yby:= @Bool.eq_iff_iff
abbrev Ybz:= @List.length_singleton
abbrev Yca:= @List.mem_cons_of_mem
abbrev Ycb:= @List.length_dropLast
abbrev Ycc:= @Nat.lt_of_lt_of_le
abbrev Ycd:= @List.getLastD_eq_getLast?
abbrev Yce:= @List.take_append_of_le_length
abbrev Ycf:= @List.flatMap_append
abbrev Ycg:= @List.mem_cons_self
abbrev Ych:= @List.getElem?_append_left
abbrev Yci:= @Int.eq_ofNat_of_zero_le
abbrev Ycj:= @List.pairwise_cons
abbrev Yck:= @List.length_filter_le
abbrev Ycl:= @List.take_take
abbrev Ycm:= @List.mem_range
abbrev Ycn:= @List.cons_append
abbrev Yco:= @List.filter_append
abbrev Ycp:= @List.getElem?_drop
abbrev Ycq:= @List.length_set
abbrev Ycr:= @List.dropLast_append_of_ne_nil
abbrev Ycs:= @List.getElem_take
abbrev Yct:= @List.mem_map
abbrev Ycu:= @List.mem_filter
abbrev Ycv:= @List.getElem?_take
abbrev Ycw:= @List.getElem?_toArray
abbrev Ycx:= @Array.getElem?_setIfInBounds
abbrev Ycy:= @List.getLast?_append
abbrev Ycz:= @List.getElem_map
abbrev Yda:= @Bool.eq_false_iff
abbrev Ydb:= @List.getElem?_map
abbrev Ydc:= @List.dropLast_eq_take
abbrev Ydd:= @List.all_cons
abbrev Yde:= @List.length_eq_zero_iff
abbrev Ydf:= @List.length_pos_iff
abbrev Ydg:= @List.range_succ
abbrev Ydh:= @List.getLast?_eq_getElem?
abbrev Ydi:= @Array.getElem?_modify
abbrev Ydj:= @Nat.mul_le_mul
abbrev Ydk:= @List.mem_flatMap
abbrev Ydl:= @Bool.or_eq_false_iff
abbrev Ydm:= @Nat.not_lt_zero
abbrev Ydn:= @Nat.add_assoc
abbrev Ydo:= @List.drop_length
abbrev Ydp:= @Bool.not_eq_true'
abbrev Ydq:= @List.getElem_append_left
abbrev Ydr:= @List.getElem_drop
abbrev Yds:= @List.size_toArray
abbrev Ydt:= @List.nodup_iff_pairwise_ne
abbrev Ydu:= @List.length_reverse
abbrev Ydv:= @Nat.min_def
abbrev Ydw:= @Bool.true_and
abbrev Ydx:= @List.pairwise_iff_getElem
abbrev Ydy:= @Nat.add_zero
abbrev Ydz:= @List.length_nil
abbrev Yea:= @List.take_left'
abbrev Yeb:= @Bool.false_eq_true
abbrev Yec:= @Array.toList_inj
abbrev Yed:= @Nat.add_sub_cancel_left
abbrev Yee:= @List.filter_eq_self
abbrev Yef:= @Bool.or_eq_true
abbrev Yeg:= @List.map_congr_left
abbrev Yeh:= @Array.getElem?_eq_none
abbrev Yei:= @List.any_eq_true
abbrev Yej:= @List.map_cons
abbrev Yek:= @Int.lt_or_eq_of_le
abbrev Yel:= @Nat.sub_self
abbrev Yem:= @Nat.le_of_lt
abbrev Yen:= @List.getElem_of_eq
abbrev Yeo:= @Bool.and_false
abbrev Yep:= @List.getElem_append_right
abbrev Yeq:= @List.dropLast_concat
abbrev Yer:= @List.mem_iff_getElem
abbrev Yes:= @List.map_map
abbrev Yet:= @Nat.and_two_pow_sub_one_eq_mod
abbrev Yeu:= @List.drop_zero
abbrev Yev:= @List.lt_irrefl
abbrev Yew:= @List.getElem_cons_zero
abbrev Yex:= @List.length_eq_one_iff
abbrev Yey:= @List.append_eq_nil_iff
abbrev Yez:= @Nat.add_sub_cancel
abbrev Yfa:= @Nat.mul_comm
abbrev Yfb:= @List.length_range
abbrev Yfc:= @List.any_eq_false
abbrev Yfd:= @Nat.mul_le_mul_right
abbrev Yfe:= @Nat.pow_le_pow_right
abbrev Yff:= @List.mem_of_mem_take
abbrev Yfg:= @List.pairwise_append
abbrev Yfh:= @List.mem_of_mem_drop
abbrev Yfi:= @Bool.false_and
abbrev Yfj:= @Option.getD_some
abbrev Yfk:= @Int.lt_or_le
namespace Go.Proofs
open Go.Shelf
def Tryz.lays156_ren:Go.Shelf.Ren:=⟨fun|156=>139|165=>174|166=>175|169=>176|240=>210|241=>211|276=>238|277=>239|n=>n,fun|31=>34|9=>9|3=>3|4=>4|0=>0|20=>20|72=>221|76=>225|70=>219|37=>65|75=>224|127=>253|164=>272|5=>5|80=>227|n=>n,fun|n=>n⟩
theorem Tryz.lays156:Go.Proofs.Lays.n156 prog Tryz.lays156_ren:={
 mixed:=by kernel_rfl
 f156:=func139.trans (congrArg some (by kernel_rfl))
 f165:=func174.trans (congrArg some (by kernel_rfl))
 f166:=func175.trans (congrArg some (by kernel_rfl))
 f169:=func176.trans (congrArg some (by kernel_rfl))
 f240:=func210.trans (congrArg some (by kernel_rfl))
 f241:=func211.trans (congrArg some (by kernel_rfl))
 f276:=func238.trans (congrArg some (by kernel_rfl))
 f277:=func239.trans (congrArg some (by kernel_rfl))
 t0:=underlying0
 a0:=Tryz.isAgg0
 z0:=Tryz.sizeOf0
 v0:=Tryz.zeroValue0
 t3:=underlying3
 a3:=Tryz.isAgg3
 z3:=Tryz.sizeOf3
 v3:=Tryz.zeroValue3
 t4:=underlying4
 a4:=Tryz.isAgg4
 z4:=Tryz.sizeOf4
 v4:=Tryz.zeroValue4
 t9:=underlying9
 a9:=Tryz.isAgg9
 z9:=Tryz.sizeOf9
 v9:=Tryz.zeroValue9
 t20:=underlying20
 a20:=Tryz.isAgg20
 z20:=Tryz.sizeOf20
 v20:=Tryz.zeroValue20
 t31:=underlying34
 a31:=Tryz.isAgg34
 z31:=Tryz.sizeOf34
 v31:=Tryz.zeroValue34
 t37:=underlying65
 a37:=Tryz.isAgg65
 z37:=Tryz.sizeOf65
 v37:=Tryz.zeroValue65
 t70:=underlying219
 a70:=Tryz.isAgg219
 z70:=Tryz.sizeOf219
 v70:=Tryz.zeroValue219
 t72:=underlying221
 a72:=Tryz.isAgg221
 z72:=Tryz.sizeOf221
 v72:=Tryz.zeroValue221
 t75:=underlying224
 a75:=Tryz.isAgg224
 z75:=Tryz.sizeOf224
 v75:=Tryz.zeroValue224
 t76:=underlying225
 a76:=Tryz.isAgg225
 z76:=Tryz.sizeOf225
 v76:=Tryz.zeroValue225
 t127:=underlying253
 a127:=Tryz.isAgg253
 z127:=Tryz.sizeOf253
 v127:=Tryz.zeroValue253
 t164:=underlying272
 a164:=Tryz.isAgg272
 z164:=Tryz.sizeOf272
 v164:=Tryz.zeroValue272}
theorem Tryz.Builder_Extra_156:Builder.Extra prog Tryz.lays156_ren:={
 sizeBuilder:=by kernel_rfl
 liesBuilder:=by kernel_rfl
 t5:=underlying5
 a5:=Tryz.isAgg5
 z5:=Tryz.sizeOf5
 v5:=Tryz.zeroValue5
 infoByte:=by kernel_rfl
 cellsByte:=by kernel_rfl
 sizeByte:=by kernel_rfl
 neB5:=by decide}
open Go.RowKit in
theorem Tryz.strings_Join_none (a:Option Addr) (c:Nat) (sep:ByteArray) (w:World):
 Calls prog 139 #[.slice a 0 c, .string sep] w fun e w'=>e= .returned (.string ⟨#[]⟩)∧w'=w:=Any.strings_Join_none Tryz.lays156 Tryz.Builder_Extra_156 a c sep w
open Go.RowKit in
theorem Tryz.strings_Join (bk o c:Nat) (xs:List ByteArray) (sep:ByteArray) (w:World) (hcells: ∀ (j:Nat) x,xs[j]?=some x→w.cell? ⟨bk,o+j,none⟩=some (.string x)) (hbk:bk<w.heap.size) (hN:xs.length≤140737488355328) (hcap:xs.length≤c) (hlen:(Lib.join (xs.map (·.data.toList)) sep.data.toList).length≤140737488355328):
 Calls prog 139 #[.slice (some ⟨bk,o,none⟩) xs.length c, .string sep] w fun e w'=>e= .returned (.string ⟨(Lib.join (xs.map (·.data.toList)) sep.data.toList).toArray⟩)∧Below w.heap.size w w':=Any.strings_Join Tryz.lays156 Tryz.Builder_Extra_156 bk o c xs sep w hcells hbk hN hcap hlen
def Tryz.lays162_ren:Go.Shelf.Ren:=⟨fun|162=>97|232=>130|227=>131|234=>132|236=>133|228=>170|271=>171|151=>172|120=>204|197=>201|152=>205|260=>223|137=>180|119=>227|224=>225|225=>224|217=>215|266=>241|n=>n,fun|9=>9|4=>4|3=>3|5=>5|117=>184|116=>183|0=>0|124=>187|21=>21|105=>216|46=>176|119=>276|139=>279|138=>278|n=>n,fun|3=>1|4=>2|n=>n⟩
theorem Tryz.lays162:Go.Proofs.Lays.n162 prog Tryz.lays162_ren:={
 mixed:=by kernel_rfl
 f119:=func227.trans (congrArg some (by kernel_rfl))
 f120:=func204.trans (congrArg some (by kernel_rfl))
 f137:=func180.trans (congrArg some (by kernel_rfl))
 f151:=func172.trans (congrArg some (by kernel_rfl))
 f152:=func205.trans (congrArg some (by kernel_rfl))
 f162:=func97.trans (congrArg some (by kernel_rfl))
 f197:=func201.trans (congrArg some (by kernel_rfl))
 f217:=func215.trans (congrArg some (by kernel_rfl))
 f224:=func225.trans (congrArg some (by kernel_rfl))
 f225:=func224.trans (congrArg some (by kernel_rfl))
 f227:=func131.trans (congrArg some (by kernel_rfl))
 f228:=func170.trans (congrArg some (by kernel_rfl))
 f232:=func130.trans (congrArg some (by kernel_rfl))
 f234:=func132.trans (congrArg some (by kernel_rfl))
 f236:=func133.trans (congrArg some (by kernel_rfl))
 f260:=func223.trans (congrArg some (by kernel_rfl))
 f266:=func241.trans (congrArg some (by kernel_rfl))
 f271:=func171.trans (congrArg some (by kernel_rfl))
 t0:=underlying0
 a0:=Tryz.isAgg0
 z0:=Tryz.sizeOf0
 v0:=Tryz.zeroValue0
 t3:=underlying3
 a3:=Tryz.isAgg3
 z3:=Tryz.sizeOf3
 v3:=Tryz.zeroValue3
 t4:=underlying4
 a4:=Tryz.isAgg4
 z4:=Tryz.sizeOf4
 v4:=Tryz.zeroValue4
 t5:=underlying5
 a5:=Tryz.isAgg5
 z5:=Tryz.sizeOf5
 v5:=Tryz.zeroValue5
 t9:=underlying9
 a9:=Tryz.isAgg9
 z9:=Tryz.sizeOf9
 v9:=Tryz.zeroValue9
 t21:=underlying21
 a21:=Tryz.isAgg21
 z21:=Tryz.sizeOf21
 v21:=Tryz.zeroValue21
 t46:=underlying176
 a46:=Tryz.isAgg176
 z46:=Tryz.sizeOf176
 v46:=Tryz.zeroValue176
 t105:=underlying216
 a105:=Tryz.isAgg216
 z105:=Tryz.sizeOf216
 v105:=Tryz.zeroValue216
 t116:=underlying183
 a116:=Tryz.isAgg183
 z116:=Tryz.sizeOf183
 t117:=underlying184
 a117:=Tryz.isAgg184
 z117:=Tryz.sizeOf184
 v117:=Tryz.zeroValue184
 t119:=underlying276
 a119:=Tryz.isAgg276
 z119:=Tryz.sizeOf276
 t124:=underlying187
 a124:=Tryz.isAgg187
 z124:=Tryz.sizeOf187
 v124:=Tryz.zeroValue187
 t138:=underlying278
 a138:=Tryz.isAgg278
 z138:=Tryz.sizeOf278
 v138:=Tryz.zeroValue278
 t139:=underlying279
 a139:=Tryz.isAgg279
 z139:=Tryz.sizeOf279
 v139:=Tryz.zeroValue279
 g3:=by kernel_rfl
 g4:=by kernel_rfl}
def Tryz.lays160_ren:Go.Shelf.Ren:=⟨fun|160=>228|232=>130|231=>244|227=>131|234=>132|233=>245|236=>133|235=>246|228=>170|271=>171|151=>172|197=>201|120=>204|152=>205|260=>223|137=>180|119=>227|224=>225|225=>224|217=>215|266=>241|n=>n,fun|9=>9|4=>4|3=>3|5=>5|117=>184|116=>183|0=>0|124=>187|21=>21|105=>216|46=>176|119=>276|139=>279|138=>278|n=>n,fun|3=>1|4=>2|n=>n⟩
theorem Tryz.lays160:Go.Proofs.Lays.n160 prog Tryz.lays160_ren:={
 mixed:=by kernel_rfl
 f119:=func227.trans (congrArg some (by kernel_rfl))
 f120:=func204.trans (congrArg some (by kernel_rfl))
 f137:=func180.trans (congrArg some (by kernel_rfl))
 f151:=func172.trans (congrArg some (by kernel_rfl))
 f152:=func205.trans (congrArg some (by kernel_rfl))
 f160:=func228.trans (congrArg some (by kernel_rfl))
 f197:=func201.trans (congrArg some (by kernel_rfl))
 f217:=func215.trans (congrArg some (by kernel_rfl))
 f224:=func225.trans (congrArg some (by kernel_rfl))
 f225:=func224.trans (congrArg some (by kernel_rfl))
 f227:=func131.trans (congrArg some (by kernel_rfl))
 f228:=func170.trans (congrArg some (by kernel_rfl))
 f231:=func244.trans (congrArg some (by kernel_rfl))
 f232:=func130.trans (congrArg some (by kernel_rfl))
 f233:=func245.trans (congrArg some (by kernel_rfl))
 f234:=func132.trans (congrArg some (by kernel_rfl))
 f235:=func246.trans (congrArg some (by kernel_rfl))
 f236:=func133.trans (congrArg some (by kernel_rfl))
 f260:=func223.trans (congrArg some (by kernel_rfl))
 f266:=func241.trans (congrArg some (by kernel_rfl))
 f271:=func171.trans (congrArg some (by kernel_rfl))
 t0:=underlying0
 a0:=Tryz.isAgg0
 z0:=Tryz.sizeOf0
 v0:=Tryz.zeroValue0
 t3:=underlying3
 a3:=Tryz.isAgg3
 z3:=Tryz.sizeOf3
 v3:=Tryz.zeroValue3
 t4:=underlying4
 a4:=Tryz.isAgg4
 z4:=Tryz.sizeOf4
 v4:=Tryz.zeroValue4
 t5:=underlying5
 a5:=Tryz.isAgg5
 z5:=Tryz.sizeOf5
 v5:=Tryz.zeroValue5
 t9:=underlying9
 a9:=Tryz.isAgg9
 z9:=Tryz.sizeOf9
 v9:=Tryz.zeroValue9
 t21:=underlying21
 a21:=Tryz.isAgg21
 z21:=Tryz.sizeOf21
 v21:=Tryz.zeroValue21
 t46:=underlying176
 a46:=Tryz.isAgg176
 z46:=Tryz.sizeOf176
 v46:=Tryz.zeroValue176
 t105:=underlying216
 a105:=Tryz.isAgg216
 z105:=Tryz.sizeOf216
 v105:=Tryz.zeroValue216
 t116:=underlying183
 a116:=Tryz.isAgg183
 z116:=Tryz.sizeOf183
 t117:=underlying184
 a117:=Tryz.isAgg184
 z117:=Tryz.sizeOf184
 v117:=Tryz.zeroValue184
 t119:=underlying276
 a119:=Tryz.isAgg276
 z119:=Tryz.sizeOf276
 t124:=underlying187
 a124:=Tryz.isAgg187
 z124:=Tryz.sizeOf187
 v124:=Tryz.zeroValue187
 t138:=underlying278
 a138:=Tryz.isAgg278
 z138:=Tryz.sizeOf278
 v138:=Tryz.zeroValue278
 t139:=underlying279
 a139:=Tryz.isAgg279
 z139:=Tryz.sizeOf279
 v139:=Tryz.zeroValue279
 g3:=by kernel_rfl
 g4:=by kernel_rfl}
def Tryz.lays106_ren:Go.Shelf.Ren:=⟨fun|106=>119|213=>153|265=>193|n=>n,fun|9=>9|3=>3|n=>n,fun|n=>n⟩
theorem Tryz.lays106:Go.Proofs.Lays.n106 prog Tryz.lays106_ren:={
 mixed:=by kernel_rfl
 f106:=func119.trans (congrArg some (by kernel_rfl))
 f213:=func153.trans (congrArg some (by kernel_rfl))
 f265:=func193.trans (congrArg some (by kernel_rfl))
 t3:=underlying3
 a3:=Tryz.isAgg3
 z3:=Tryz.sizeOf3
 v3:=Tryz.zeroValue3
 t9:=underlying9
 a9:=Tryz.isAgg9
 z9:=Tryz.sizeOf9
 v9:=Tryz.zeroValue9}
open Go.RowKit in
theorem Tryz.strings_Compare (a b:ByteArray) (w:World):
 Calls prog 119 #[.string a, .string b] w fun e w'=>e= .returned (.int .i64 (Lib.compareBytes a.data.toList b.data.toList))∧w'=w:=Any.strings_Compare Tryz.lays106 a b w
def Tryz.lays137_ren:Go.Shelf.Ren:=⟨fun|137=>180|217=>215|266=>241|n=>n,fun|9=>9|5=>5|3=>3|n=>n,fun|n=>n⟩
theorem Tryz.lays137:Go.Proofs.Lays.n137 prog Tryz.lays137_ren:={
 mixed:=by kernel_rfl
 f137:=func180.trans (congrArg some (by kernel_rfl))
 f217:=func215.trans (congrArg some (by kernel_rfl))
 f266:=func241.trans (congrArg some (by kernel_rfl))
 t3:=underlying3
 a3:=Tryz.isAgg3
 z3:=Tryz.sizeOf3
 v3:=Tryz.zeroValue3
 t5:=underlying5
 a5:=Tryz.isAgg5
 z5:=Tryz.sizeOf5
 v5:=Tryz.zeroValue5
 t9:=underlying9
 a9:=Tryz.isAgg9
 z9:=Tryz.sizeOf9
 v9:=Tryz.zeroValue9}
open Go.RowKit in
theorem Tryz.strings_IndexByte (s:ByteArray) (c:Int) (w:World):
 Calls prog 180 #[.string s, .int .u8 c] w fun e w'=>e= .returned (.int .i64 (Lib.indexByte s.data.toList c.toNat.toUInt8))∧w'=w:=Any.strings_IndexByte Tryz.lays137 s c w
def Tryz.lays103_ren:Go.Shelf.Ren:=⟨fun|103=>235|210=>254|206=>137|n=>n,fun|9=>9|4=>4|24=>233|3=>3|n=>n,fun|n=>n⟩
theorem Tryz.lays103:Go.Proofs.Lays.n103 prog Tryz.lays103_ren:={
 mixed:=by kernel_rfl
 f103:=func235.trans (congrArg some (by kernel_rfl))
 f206:=func137.trans (congrArg some (by kernel_rfl))
 f210:=func254.trans (congrArg some (by kernel_rfl))
 t3:=underlying3
 a3:=Tryz.isAgg3
 z3:=Tryz.sizeOf3
 v3:=Tryz.zeroValue3
 t4:=underlying4
 a4:=Tryz.isAgg4
 z4:=Tryz.sizeOf4
 v4:=Tryz.zeroValue4
 t9:=underlying9
 a9:=Tryz.isAgg9
 z9:=Tryz.sizeOf9
 v9:=Tryz.zeroValue9
 t24:=underlying233
 a24:=Tryz.isAgg233
 z24:=Tryz.sizeOf233
 v24:=Tryz.zeroValue233}
open Go.RowKit in
theorem Tryz.strings_CutPrefix (s p:ByteArray) (w:World):
 Calls prog 235 #[.string s, .string p] w fun e w'=>e= .returned (.tuple #[.string ⟨(Lib.trimPrefix s.data.toList p.data.toList).toArray⟩, .bool (Lib.hasPrefix s.data.toList p.data.toList)])∧w'=w:=Any.strings_CutPrefix Tryz.lays103 s p w
def Tryz.laysM171_ren:Go.Shelf.Ren:=⟨fun|171=>233|243=>251|246=>265|283=>270|284=>271|285=>272|286=>273|129=>163|317=>276|318=>277|319=>278|320=>279|337=>280|338=>281|n=>n,fun|3=>3|9=>9|2=>2|4=>4|171=>302|0=>0|53=>213|37=>65|5=>5|173=>304|212=>313|51=>211|20=>20|213=>314|46=>176|232=>315|233=>316|n=>n,fun|17=>6|18=>7|19=>8|n=>n⟩
theorem Tryz.laysM171:Go.Proofs.LaysM.n171 prog Tryz.laysM171_ren:={
 mixed:=by kernel_rfl
 f129:=func163.trans (congrArg some (by kernel_rfl))
 f171:=func233.trans (congrArg some (by kernel_rfl))
 f243:=func251.trans (congrArg some (by kernel_rfl))
 f246:=func265.trans (congrArg some (by kernel_rfl))
 f283:=func270.trans (congrArg some (by kernel_rfl))
 f284:=func271.trans (congrArg some (by kernel_rfl))
 f285:=func272.trans (congrArg some (by kernel_rfl))
 f286:=func273.trans (congrArg some (by kernel_rfl))
 f317:=func276.trans (congrArg some (by kernel_rfl))
 f318:=func277.trans (congrArg some (by kernel_rfl))
 f319:=func278.trans (congrArg some (by kernel_rfl))
 f320:=func279.trans (congrArg some (by kernel_rfl))
 f337:=func280.trans (congrArg some (by kernel_rfl))
 f338:=func281.trans (congrArg some (by kernel_rfl))
 t0:=underlying0
 a0:=Tryz.isAgg0
 z0:=Tryz.sizeOf0
 v0:=Tryz.zeroValue0
 t2:=underlying2
 a2:=Tryz.isAgg2
 z2:=Tryz.sizeOf2
 v2:=Tryz.zeroValue2
 t3:=underlying3
 a3:=Tryz.isAgg3
 z3:=Tryz.sizeOf3
 v3:=Tryz.zeroValue3
 t4:=underlying4
 a4:=Tryz.isAgg4
 z4:=Tryz.sizeOf4
 v4:=Tryz.zeroValue4
 t5:=underlying5
 a5:=Tryz.isAgg5
 z5:=Tryz.sizeOf5
 v5:=Tryz.zeroValue5
 t9:=underlying9
 a9:=Tryz.isAgg9
 z9:=Tryz.sizeOf9
 v9:=Tryz.zeroValue9
 t20:=underlying20
 a20:=Tryz.isAgg20
 z20:=Tryz.sizeOf20
 v20:=Tryz.zeroValue20
 t37:=underlying65
 a37:=Tryz.isAgg65
 z37:=Tryz.sizeOf65
 v37:=Tryz.zeroValue65
 t46:=underlying176
 a46:=Tryz.isAgg176
 z46:=Tryz.sizeOf176
 v46:=Tryz.zeroValue176
 t51:=underlying211
 a51:=Tryz.isAgg211
 z51:=Tryz.sizeOf211
 v51:=Tryz.zeroValue211
 t53:=underlying213
 a53:=Tryz.isAgg213
 z53:=Tryz.sizeOf213
 v53:=Tryz.zeroValue213
 t171:=underlying302
 a171:=Tryz.isAgg302
 z171:=Tryz.sizeOf302
 v171:=Tryz.zeroValue302
 t173:=underlying304
 a173:=Tryz.isAgg304
 z173:=Tryz.sizeOf304
 v173:=Tryz.zeroValue304
 t212:=underlying313
 a212:=Tryz.isAgg313
 z212:=Tryz.sizeOf313
 v212:=Tryz.zeroValue313
 t213:=underlying314
 a213:=Tryz.isAgg314
 z213:=Tryz.sizeOf314
 t232:=underlying315
 a232:=Tryz.isAgg315
 z232:=Tryz.sizeOf315
 v232:=Tryz.zeroValue315
 t233:=underlying316
 a233:=Tryz.isAgg316
 z233:=Tryz.sizeOf316
 v233:=Tryz.zeroValue316
 g17:=by kernel_rfl
 g18:=by kernel_rfl
 g19:=by kernel_rfl
 i0:=by kernel_rfl
 i2:=by kernel_rfl
 i3:=by kernel_rfl
 i4:=by kernel_rfl
 i5:=by kernel_rfl
 i9:=by kernel_rfl
 i20:=by kernel_rfl
 i37:=by kernel_rfl
 i46:=by kernel_rfl
 i51:=by kernel_rfl
 i53:=by kernel_rfl
 i171:=by kernel_rfl
 i173:=by kernel_rfl
 i212:=by kernel_rfl
 i232:=by kernel_rfl
 i233:=by kernel_rfl
 m17:=by kernel_rfl
 m18:=by kernel_rfl
 m19:=by kernel_rfl}
open Go.RowKit Go.Sort Go.Lib in
theorem Tryz.strconv_Itoa (n:Int) (h0: -9223372036854775808≤n) (h1:n≤9223372036854775807) (w:World) (htab:Lib.TabIs prog w "internal/strconv.uint64pow10" .u64 Lib.pow10Tab):
 Calls prog 233 #[.int .i64 n] w fun e w'=>e= .returned (.string ⟨(Lib.itoa n).toArray⟩)∧ ∃ k os,w'=grow (w.drewN k) os:=Any.strconv_Itoa Tryz.laysM171 n h0 h1 w htab
def Tryz.laysC172_ren:Go.Shelf.Ren:=⟨fun|172=>232|244=>250|245=>248|247=>264|279=>260|280=>261|281=>262|282=>263|287=>247|316=>268|171=>233|205=>269|321=>258|322=>259|243=>251|246=>265|283=>270|284=>271|285=>272|286=>273|129=>163|317=>276|318=>277|319=>278|320=>279|337=>280|338=>281|n=>n,fun|9=>9|3=>3|75=>224|76=>225|4=>4|5=>5|167=>289|37=>65|0=>0|85=>294|2=>2|168=>291|53=>213|175=>266|46=>176|210=>300|127=>253|145=>311|143=>309|21=>21|171=>302|173=>304|212=>313|51=>211|20=>20|213=>314|232=>315|233=>316|80=>227|n=>n,fun|15=>4|16=>5|17=>6|18=>7|19=>8|n=>n⟩
theorem Tryz.laysC172:Go.Proofs.LaysC.n172 prog Tryz.laysC172_ren:={
 mixed:=by kernel_rfl
 f129:=func163.trans (congrArg some (by kernel_rfl))
 f171:=func233.trans (congrArg some (by kernel_rfl))
 f172:=func232.trans (congrArg some (by kernel_rfl))
 f205:=func269.trans (congrArg some (by kernel_rfl))
 f243:=func251.trans (congrArg some (by kernel_rfl))
 f244:=func250.trans (congrArg some (by kernel_rfl))
 f245:=func248.trans (congrArg some (by kernel_rfl))
 f246:=func265.trans (congrArg some (by kernel_rfl))
 f247:=func264.trans (congrArg some (by kernel_rfl))
 f279:=func260.trans (congrArg some (by kernel_rfl))
 f280:=func261.trans (congrArg some (by kernel_rfl))
 f281:=func262.trans (congrArg some (by kernel_rfl))
 f282:=func263.trans (congrArg some (by kernel_rfl))
 f283:=func270.trans (congrArg some (by kernel_rfl))
 f284:=func271.trans (congrArg some (by kernel_rfl))
 f285:=func272.trans (congrArg some (by kernel_rfl))
 f286:=func273.trans (congrArg some (by kernel_rfl))
 f287:=func247.trans (congrArg some (by kernel_rfl))
 f316:=func268.trans (congrArg some (by kernel_rfl))
 f317:=func276.trans (congrArg some (by kernel_rfl))
 f318:=func277.trans (congrArg some (by kernel_rfl))
 f319:=func278.trans (congrArg some (by kernel_rfl))
 f320:=func279.trans (congrArg some (by kernel_rfl))
 f321:=func258.trans (congrArg some (by kernel_rfl))
 f322:=func259.trans (congrArg some (by kernel_rfl))
 f337:=func280.trans (congrArg some (by kernel_rfl))
 f338:=func281.trans (congrArg some (by kernel_rfl))
 t0:=underlying0
 a0:=Tryz.isAgg0
 z0:=Tryz.sizeOf0
 v0:=Tryz.zeroValue0
 t2:=underlying2
 a2:=Tryz.isAgg2
 z2:=Tryz.sizeOf2
 v2:=Tryz.zeroValue2
 t3:=underlying3
 a3:=Tryz.isAgg3
 z3:=Tryz.sizeOf3
 v3:=Tryz.zeroValue3
 t4:=underlying4
 a4:=Tryz.isAgg4
 z4:=Tryz.sizeOf4
 v4:=Tryz.zeroValue4
 t5:=underlying5
 a5:=Tryz.isAgg5
 z5:=Tryz.sizeOf5
 v5:=Tryz.zeroValue5
 t9:=underlying9
 a9:=Tryz.isAgg9
 z9:=Tryz.sizeOf9
 v9:=Tryz.zeroValue9
 t20:=underlying20
 a20:=Tryz.isAgg20
 z20:=Tryz.sizeOf20
 v20:=Tryz.zeroValue20
 t21:=underlying21
 a21:=Tryz.isAgg21
 z21:=Tryz.sizeOf21
 v21:=Tryz.zeroValue21
 t37:=underlying65
 a37:=Tryz.isAgg65
 z37:=Tryz.sizeOf65
 v37:=Tryz.zeroValue65
 t46:=underlying176
 a46:=Tryz.isAgg176
 z46:=Tryz.sizeOf176
 v46:=Tryz.zeroValue176
 t51:=underlying211
 a51:=Tryz.isAgg211
 z51:=Tryz.sizeOf211
 v51:=Tryz.zeroValue211
 t53:=underlying213
 a53:=Tryz.isAgg213
 z53:=Tryz.sizeOf213
 v53:=Tryz.zeroValue213
 t75:=underlying224
 a75:=Tryz.isAgg224
 z75:=Tryz.sizeOf224
 v75:=Tryz.zeroValue224
 t76:=underlying225
 a76:=Tryz.isAgg225
 z76:=Tryz.sizeOf225
 v76:=Tryz.zeroValue225
 t85:=underlying294
 a85:=Tryz.isAgg294
 z85:=Tryz.sizeOf294
 v85:=Tryz.zeroValue294
 t127:=underlying253
 a127:=Tryz.isAgg253
 z127:=Tryz.sizeOf253
 v127:=Tryz.zeroValue253
 t143:=underlying309
 a143:=Tryz.isAgg309
 z143:=Tryz.sizeOf309
 v143:=Tryz.zeroValue309
 t145:=underlying311
 a145:=Tryz.isAgg311
 z145:=Tryz.sizeOf311
 v145:=Tryz.zeroValue311
 t167:=underlying289
 a167:=Tryz.isAgg289
 z167:=Tryz.sizeOf289
 v167:=Tryz.zeroValue289
 t168:=underlying291
 a168:=Tryz.isAgg291
 z168:=Tryz.sizeOf291
 v168:=Tryz.zeroValue291
 t171:=underlying302
 a171:=Tryz.isAgg302
 z171:=Tryz.sizeOf302
 v171:=Tryz.zeroValue302
 t173:=underlying304
 a173:=Tryz.isAgg304
 z173:=Tryz.sizeOf304
 v173:=Tryz.zeroValue304
 t175:=underlying266
 a175:=Tryz.isAgg266
 z175:=Tryz.sizeOf266
 v175:=Tryz.zeroValue266
 t210:=underlying300
 a210:=Tryz.isAgg300
 z210:=Tryz.sizeOf300
 v210:=Tryz.zeroValue300
 t212:=underlying313
 a212:=Tryz.isAgg313
 z212:=Tryz.sizeOf313
 v212:=Tryz.zeroValue313
 t213:=underlying314
 a213:=Tryz.isAgg314
 z213:=Tryz.sizeOf314
 t232:=underlying315
 a232:=Tryz.isAgg315
 z232:=Tryz.sizeOf315
 v232:=Tryz.zeroValue315
 t233:=underlying316
 a233:=Tryz.isAgg316
 z233:=Tryz.sizeOf316
 v233:=Tryz.zeroValue316
 g15:=by kernel_rfl
 g16:=by kernel_rfl
 g17:=by kernel_rfl
 g18:=by kernel_rfl
 g19:=by kernel_rfl
 t80:=underlying227
 a80:=Tryz.isAgg227
 z80:=Tryz.sizeOf227
 v80:=Tryz.zeroValue227
 i0:=by kernel_rfl
 i2:=by kernel_rfl
 i3:=by kernel_rfl
 i4:=by kernel_rfl
 i5:=by kernel_rfl
 i9:=by kernel_rfl
 i20:=by kernel_rfl
 i21:=by kernel_rfl
 i37:=by kernel_rfl
 i46:=by kernel_rfl
 i51:=by kernel_rfl
 i53:=by kernel_rfl
 i75:=by kernel_rfl
 i76:=by kernel_rfl
 i80:=by kernel_rfl
 i85:=by kernel_rfl
 i127:=by kernel_rfl
 i143:=by kernel_rfl
 i145:=by kernel_rfl
 i167:=by kernel_rfl
 i168:=by kernel_rfl
 i171:=by kernel_rfl
 i173:=by kernel_rfl
 i175:=by kernel_rfl
 i210:=by kernel_rfl
 i212:=by kernel_rfl
 i232:=by kernel_rfl
 i233:=by kernel_rfl
 m15:=by kernel_rfl
 m16:=by kernel_rfl
 m17:=by kernel_rfl
 m18:=by kernel_rfl
 m19:=by kernel_rfl
 c0:=by kernel_rfl
 c2:=by kernel_rfl
 c3:=by kernel_rfl
 c4:=by kernel_rfl
 c5:=by kernel_rfl
 c9:=by kernel_rfl
 c20:=by kernel_rfl
 c21:=by kernel_rfl
 c37:=by kernel_rfl
 c46:=by kernel_rfl
 c51:=by kernel_rfl
 c53:=by kernel_rfl
 c75:=by kernel_rfl
 c76:=by kernel_rfl
 c80:=by kernel_rfl
 c85:=by kernel_rfl
 c127:=by kernel_rfl
 c143:=by kernel_rfl
 c145:=by kernel_rfl
 c167:=by kernel_rfl
 c168:=by kernel_rfl
 c171:=by kernel_rfl
 c173:=by kernel_rfl
 c175:=by kernel_rfl
 c210:=by kernel_rfl
 c212:=by kernel_rfl
 c213:=by kernel_rfl
 c232:=by kernel_rfl
 c233:=by kernel_rfl}
open Go.RowKit in
theorem Tryz.strconv_Atoi_ok (s:ByteArray) (hmax:s.size≤9223372036854775806) (v:Int) (h:Lib.atoiAll s.data.toList= .ok v) (w:World):
 Calls prog 232 #[.string s] w fun e w'=>e= .returned (.tuple #[.int .i64 v, .nilIface])∧(w'=w∨ ∃ t,w'=Lib.bytesWorld w 5 t):=Any.strconv_Atoi_ok Tryz.laysC172 s hmax v h w
def Tryz.laysPu14_ren:Go.Shelf.Ren:=⟨fun|14=>229|16=>247|17=>248|19=>258|20=>259|21=>260|22=>261|23=>262|24=>263|25=>268|27=>233|26=>269|28=>251|29=>265|30=>270|31=>271|32=>272|33=>273|35=>163|34=>276|36=>277|37=>278|38=>279|39=>280|40=>281|n=>n,fun|9=>9|3=>3|22=>213|24=>224|25=>266|4=>4|34=>289|5=>5|36=>176|37=>65|0=>0|39=>291|21=>21|44=>300|47=>253|50=>311|48=>309|2=>2|52=>302|55=>304|59=>313|60=>211|20=>20|61=>314|65=>315|66=>316|67=>227|n=>n,fun|0=>4|1=>5|2=>6|3=>7|4=>8|n=>n⟩
theorem Tryz.laysPu14:Go.Proofs.LaysPu.n14 prog Tryz.laysPu14_ren:={
 mixed:=by kernel_rfl
 f14:=func229.trans (congrArg some (by kernel_rfl))
 f16:=func247.trans (congrArg some (by kernel_rfl))
 f17:=func248.trans (congrArg some (by kernel_rfl))
 f19:=func258.trans (congrArg some (by kernel_rfl))
 f20:=func259.trans (congrArg some (by kernel_rfl))
 f21:=func260.trans (congrArg some (by kernel_rfl))
 f22:=func261.trans (congrArg some (by kernel_rfl))
 f23:=func262.trans (congrArg some (by kernel_rfl))
 f24:=func263.trans (congrArg some (by kernel_rfl))
 f25:=func268.trans (congrArg some (by kernel_rfl))
 f26:=func269.trans (congrArg some (by kernel_rfl))
 f27:=func233.trans (congrArg some (by kernel_rfl))
 f28:=func251.trans (congrArg some (by kernel_rfl))
 f29:=func265.trans (congrArg some (by kernel_rfl))
 f30:=func270.trans (congrArg some (by kernel_rfl))
 f31:=func271.trans (congrArg some (by kernel_rfl))
 f32:=func272.trans (congrArg some (by kernel_rfl))
 f33:=func273.trans (congrArg some (by kernel_rfl))
 f34:=func276.trans (congrArg some (by kernel_rfl))
 f35:=func163.trans (congrArg some (by kernel_rfl))
 f36:=func277.trans (congrArg some (by kernel_rfl))
 f37:=func278.trans (congrArg some (by kernel_rfl))
 f38:=func279.trans (congrArg some (by kernel_rfl))
 f39:=func280.trans (congrArg some (by kernel_rfl))
 f40:=func281.trans (congrArg some (by kernel_rfl))
 t0:=underlying0
 a0:=Tryz.isAgg0
 z0:=Tryz.sizeOf0
 v0:=Tryz.zeroValue0
 i0:=by kernel_rfl
 t2:=underlying2
 a2:=Tryz.isAgg2
 z2:=Tryz.sizeOf2
 v2:=Tryz.zeroValue2
 i2:=by kernel_rfl
 t3:=underlying3
 a3:=Tryz.isAgg3
 z3:=Tryz.sizeOf3
 v3:=Tryz.zeroValue3
 i3:=by kernel_rfl
 t4:=underlying4
 a4:=Tryz.isAgg4
 z4:=Tryz.sizeOf4
 v4:=Tryz.zeroValue4
 i4:=by kernel_rfl
 t5:=underlying5
 a5:=Tryz.isAgg5
 z5:=Tryz.sizeOf5
 v5:=Tryz.zeroValue5
 i5:=by kernel_rfl
 t9:=underlying9
 a9:=Tryz.isAgg9
 z9:=Tryz.sizeOf9
 v9:=Tryz.zeroValue9
 i9:=by kernel_rfl
 t20:=underlying20
 a20:=Tryz.isAgg20
 z20:=Tryz.sizeOf20
 v20:=Tryz.zeroValue20
 i20:=by kernel_rfl
 t21:=underlying21
 a21:=Tryz.isAgg21
 z21:=Tryz.sizeOf21
 v21:=Tryz.zeroValue21
 i21:=by kernel_rfl
 t22:=underlying213
 a22:=Tryz.isAgg213
 z22:=Tryz.sizeOf213
 v22:=Tryz.zeroValue213
 i22:=by kernel_rfl
 t24:=underlying224
 a24:=Tryz.isAgg224
 z24:=Tryz.sizeOf224
 v24:=Tryz.zeroValue224
 i24:=by kernel_rfl
 t25:=underlying266
 a25:=Tryz.isAgg266
 z25:=Tryz.sizeOf266
 v25:=Tryz.zeroValue266
 i25:=by kernel_rfl
 t34:=underlying289
 a34:=Tryz.isAgg289
 z34:=Tryz.sizeOf289
 v34:=Tryz.zeroValue289
 i34:=by kernel_rfl
 c34:=by kernel_rfl
 t36:=underlying176
 a36:=Tryz.isAgg176
 z36:=Tryz.sizeOf176
 v36:=Tryz.zeroValue176
 i36:=by kernel_rfl
 t37:=underlying65
 a37:=Tryz.isAgg65
 z37:=Tryz.sizeOf65
 v37:=Tryz.zeroValue65
 i37:=by kernel_rfl
 t39:=underlying291
 a39:=Tryz.isAgg291
 z39:=Tryz.sizeOf291
 v39:=Tryz.zeroValue291
 i39:=by kernel_rfl
 t44:=underlying300
 a44:=Tryz.isAgg300
 z44:=Tryz.sizeOf300
 v44:=Tryz.zeroValue300
 i44:=by kernel_rfl
 t47:=underlying253
 a47:=Tryz.isAgg253
 z47:=Tryz.sizeOf253
 v47:=Tryz.zeroValue253
 i47:=by kernel_rfl
 t48:=underlying309
 a48:=Tryz.isAgg309
 z48:=Tryz.sizeOf309
 v48:=Tryz.zeroValue309
 i48:=by kernel_rfl
 t50:=underlying311
 a50:=Tryz.isAgg311
 z50:=Tryz.sizeOf311
 v50:=Tryz.zeroValue311
 i50:=by kernel_rfl
 t52:=underlying302
 a52:=Tryz.isAgg302
 z52:=Tryz.sizeOf302
 v52:=Tryz.zeroValue302
 i52:=by kernel_rfl
 t55:=underlying304
 a55:=Tryz.isAgg304
 z55:=Tryz.sizeOf304
 v55:=Tryz.zeroValue304
 i55:=by kernel_rfl
 t59:=underlying313
 a59:=Tryz.isAgg313
 z59:=Tryz.sizeOf313
 v59:=Tryz.zeroValue313
 i59:=by kernel_rfl
 t60:=underlying211
 a60:=Tryz.isAgg211
 z60:=Tryz.sizeOf211
 v60:=Tryz.zeroValue211
 i60:=by kernel_rfl
 t61:=underlying314
 a61:=Tryz.isAgg314
 z61:=Tryz.sizeOf314
 t65:=underlying315
 a65:=Tryz.isAgg315
 z65:=Tryz.sizeOf315
 v65:=Tryz.zeroValue315
 i65:=by kernel_rfl
 t66:=underlying316
 a66:=Tryz.isAgg316
 z66:=Tryz.sizeOf316
 v66:=Tryz.zeroValue316
 i66:=by kernel_rfl
 t67:=underlying227
 a67:=Tryz.isAgg227
 z67:=Tryz.sizeOf227
 v67:=Tryz.zeroValue227
 i67:=by kernel_rfl
 g0:=by kernel_rfl
 m0:=by kernel_rfl
 g1:=by kernel_rfl
 m1:=by kernel_rfl
 g2:=by kernel_rfl
 m2:=by kernel_rfl
 g3:=by kernel_rfl
 m3:=by kernel_rfl
 g4:=by kernel_rfl
 m4:=by kernel_rfl}
def Tryz.lays145_ren:Go.Shelf.Ren:=⟨fun|145=>212|220=>240|219=>203|217=>215|225=>224|224=>225|267=>226|266=>241|314=>243|n=>n,fun|9=>9|4=>4|59=>254|3=>3|5=>5|46=>176|146=>280|51=>211|n=>n,fun|1=>0|n=>n⟩
theorem Tryz.lays145:Go.Proofs.Lays.n145 prog Tryz.lays145_ren:={
 mixed:=by kernel_rfl
 f145:=func212.trans (congrArg some (by kernel_rfl))
 f217:=func215.trans (congrArg some (by kernel_rfl))
 f219:=func203.trans (congrArg some (by kernel_rfl))
 f220:=func240.trans (congrArg some (by kernel_rfl))
 f224:=func225.trans (congrArg some (by kernel_rfl))
 f225:=func224.trans (congrArg some (by kernel_rfl))
 f266:=func241.trans (congrArg some (by kernel_rfl))
 f267:=func226.trans (congrArg some (by kernel_rfl))
 f314:=func243.trans (congrArg some (by kernel_rfl))
 t3:=underlying3
 a3:=Tryz.isAgg3
 z3:=Tryz.sizeOf3
 v3:=Tryz.zeroValue3
 t4:=underlying4
 a4:=Tryz.isAgg4
 z4:=Tryz.sizeOf4
 v4:=Tryz.zeroValue4
 t5:=underlying5
 a5:=Tryz.isAgg5
 z5:=Tryz.sizeOf5
 v5:=Tryz.zeroValue5
 t9:=underlying9
 a9:=Tryz.isAgg9
 z9:=Tryz.sizeOf9
 v9:=Tryz.zeroValue9
 t46:=underlying176
 a46:=Tryz.isAgg176
 z46:=Tryz.sizeOf176
 v46:=Tryz.zeroValue176
 t51:=underlying211
 a51:=Tryz.isAgg211
 z51:=Tryz.sizeOf211
 v51:=Tryz.zeroValue211
 t59:=underlying254
 a59:=Tryz.isAgg254
 z59:=Tryz.sizeOf254
 v59:=Tryz.zeroValue254
 t146:=underlying280
 a146:=Tryz.isAgg280
 z146:=Tryz.sizeOf280
 v146:=Tryz.zeroValue280
 g1:=by kernel_rfl}
open Go.RowKit Go.Lib in
theorem Tryz.strings_Cut (s sep:ByteArray) (m:Int) (w:World) (hs:s.size<4294967281) (hm:w.cell? ⟨0,0,none⟩=some (.int .i64 m)):
 Calls prog 212 #[.string s, .string sep] w fun e w'=>e= .returned (.tuple #[.string ⟨(Lib.cut s.data.toList sep.data.toList).1.toArray⟩, .string ⟨(Lib.cut s.data.toList sep.data.toList).2.1.toArray⟩, .bool (Lib.cut s.data.toList sep.data.toList).2.2])∧ ∃ n,w'=w.drewN n:=Any.strings_Cut Tryz.lays145 s sep m w hs hm
def Tryz.lays99_ren:Go.Shelf.Ren:=⟨fun|99=>104|206=>137|n=>n,fun|9=>9|4=>4|3=>3|n=>n,fun|n=>n⟩
theorem Tryz.lays99:Go.Proofs.Lays.n99 prog Tryz.lays99_ren:={
 mixed:=by kernel_rfl
 f99:=func104.trans (congrArg some (by kernel_rfl))
 f206:=func137.trans (congrArg some (by kernel_rfl))
 t3:=underlying3
 a3:=Tryz.isAgg3
 z3:=Tryz.sizeOf3
 v3:=Tryz.zeroValue3
 t4:=underlying4
 a4:=Tryz.isAgg4
 z4:=Tryz.sizeOf4
 v4:=Tryz.zeroValue4
 t9:=underlying9
 a9:=Tryz.isAgg9
 z9:=Tryz.sizeOf9
 v9:=Tryz.zeroValue9}
open Go.RowKit Go.Lib in
theorem Tryz.strings_HasPrefix (s p:ByteArray) (w:World):
 Calls prog 104 #[.string s, .string p] w fun e w'=>e= .returned (.bool (Lib.hasPrefix s.data.toList p.data.toList))∧w'=w:=Any.strings_HasPrefix Tryz.lays99 s p w
def Tryz.lays100_ren:Go.Shelf.Ren:=⟨fun|100=>98|207=>134|n=>n,fun|9=>9|4=>4|3=>3|n=>n,fun|n=>n⟩
theorem Tryz.lays100:Go.Proofs.Lays.n100 prog Tryz.lays100_ren:={
 mixed:=by kernel_rfl
 f100:=func98.trans (congrArg some (by kernel_rfl))
 f207:=func134.trans (congrArg some (by kernel_rfl))
 t3:=underlying3
 a3:=Tryz.isAgg3
 z3:=Tryz.sizeOf3
 v3:=Tryz.zeroValue3
 t4:=underlying4
 a4:=Tryz.isAgg4
 z4:=Tryz.sizeOf4
 v4:=Tryz.zeroValue4
 t9:=underlying9
 a9:=Tryz.isAgg9
 z9:=Tryz.sizeOf9
 v9:=Tryz.zeroValue9}
open Go.RowKit Go.Lib in
theorem Tryz.strings_HasSuffix (s p:ByteArray) (w:World) (hs:s.size≤9223372036854775807):
 Calls prog 98 #[.string s, .string p] w fun e w'=>e= .returned (.bool (Lib.hasSuffix s.data.toList p.data.toList))∧w'=w:=Any.strings_HasSuffix Tryz.lays100 s p w hs
def Tryz.lays146_ren:Go.Shelf.Ren:=⟨fun|146=>96|221=>129|268=>167|138=>168|143=>169|195=>200|197=>201|218=>202|219=>203|260=>223|217=>215|225=>224|224=>225|267=>226|266=>241|314=>243|n=>n,fun|9=>9|31=>34|3=>3|4=>4|0=>0|105=>216|21=>21|5=>5|46=>176|119=>276|139=>279|138=>278|146=>280|51=>211|n=>n,fun|1=>0|3=>1|4=>2|n=>n⟩
theorem Tryz.lays146:Go.Proofs.Lays.n146 prog Tryz.lays146_ren:={
 mixed:=by kernel_rfl
 f138:=func168.trans (congrArg some (by kernel_rfl))
 f143:=func169.trans (congrArg some (by kernel_rfl))
 f146:=func96.trans (congrArg some (by kernel_rfl))
 f195:=func200.trans (congrArg some (by kernel_rfl))
 f197:=func201.trans (congrArg some (by kernel_rfl))
 f217:=func215.trans (congrArg some (by kernel_rfl))
 f218:=func202.trans (congrArg some (by kernel_rfl))
 f219:=func203.trans (congrArg some (by kernel_rfl))
 f221:=func129.trans (congrArg some (by kernel_rfl))
 f224:=func225.trans (congrArg some (by kernel_rfl))
 f225:=func224.trans (congrArg some (by kernel_rfl))
 f260:=func223.trans (congrArg some (by kernel_rfl))
 f266:=func241.trans (congrArg some (by kernel_rfl))
 f267:=func226.trans (congrArg some (by kernel_rfl))
 f268:=func167.trans (congrArg some (by kernel_rfl))
 f314:=func243.trans (congrArg some (by kernel_rfl))
 t0:=underlying0
 a0:=Tryz.isAgg0
 z0:=Tryz.sizeOf0
 v0:=Tryz.zeroValue0
 t3:=underlying3
 a3:=Tryz.isAgg3
 z3:=Tryz.sizeOf3
 v3:=Tryz.zeroValue3
 t4:=underlying4
 a4:=Tryz.isAgg4
 z4:=Tryz.sizeOf4
 v4:=Tryz.zeroValue4
 t5:=underlying5
 a5:=Tryz.isAgg5
 z5:=Tryz.sizeOf5
 v5:=Tryz.zeroValue5
 t9:=underlying9
 a9:=Tryz.isAgg9
 z9:=Tryz.sizeOf9
 v9:=Tryz.zeroValue9
 t21:=underlying21
 a21:=Tryz.isAgg21
 z21:=Tryz.sizeOf21
 v21:=Tryz.zeroValue21
 t31:=underlying34
 a31:=Tryz.isAgg34
 z31:=Tryz.sizeOf34
 v31:=Tryz.zeroValue34
 t46:=underlying176
 a46:=Tryz.isAgg176
 z46:=Tryz.sizeOf176
 v46:=Tryz.zeroValue176
 t51:=underlying211
 a51:=Tryz.isAgg211
 z51:=Tryz.sizeOf211
 v51:=Tryz.zeroValue211
 t105:=underlying216
 a105:=Tryz.isAgg216
 z105:=Tryz.sizeOf216
 v105:=Tryz.zeroValue216
 t119:=underlying276
 a119:=Tryz.isAgg276
 z119:=Tryz.sizeOf276
 t138:=underlying278
 a138:=Tryz.isAgg278
 z138:=Tryz.sizeOf278
 v138:=Tryz.zeroValue278
 t139:=underlying279
 a139:=Tryz.isAgg279
 z139:=Tryz.sizeOf279
 v139:=Tryz.zeroValue279
 t146:=underlying280
 a146:=Tryz.isAgg280
 z146:=Tryz.sizeOf280
 v146:=Tryz.zeroValue280
 g1:=by kernel_rfl
 g3:=by kernel_rfl
 g4:=by kernel_rfl}
open Go.RowKit Go.Lib in
theorem Tryz.strings_Split (s sep:ByteArray) (m:Int) (w:World) (hs:s.size<4294967281) (hm:w.cell? ⟨0,0,none⟩=some (.int .i64 m)) (h1:1≤sep.size):
 Calls prog 96 #[.string s, .string sep] w fun e w'=>
  e= .returned (.slice (some ⟨w.heap.size,0,none⟩) (Lib.countB s sep+1) (Lib.countB s sep+1))∧w'=w.alloc (.cells ((Lib.splitB sep 0 (Lib.countB s sep) s).map Value.string).toArray 9):=Any.strings_Split Tryz.lays146 (by kernel_rfl) s sep m w hs hm h1
def Tryz.lays155_ren:Go.Shelf.Ren:=⟨fun|155=>230|154=>249|138=>168|165=>174|143=>169|166=>175|197=>201|169=>176|195=>200|218=>202|240=>210|241=>211|219=>203|260=>223|276=>238|277=>239|217=>215|225=>224|224=>225|267=>226|266=>241|314=>243|n=>n,fun|9=>9|3=>3|4=>4|72=>221|0=>0|76=>225|105=>216|21=>21|5=>5|70=>219|20=>20|37=>65|75=>224|127=>253|164=>272|46=>176|119=>276|139=>279|138=>278|146=>280|51=>211|80=>227|n=>n,fun|1=>0|3=>1|4=>2|n=>n⟩
theorem Tryz.lays155:Go.Proofs.Lays.n155 prog Tryz.lays155_ren:={
 mixed:=by kernel_rfl
 f138:=func168.trans (congrArg some (by kernel_rfl))
 f143:=func169.trans (congrArg some (by kernel_rfl))
 f154:=func249.trans (congrArg some (by kernel_rfl))
 f155:=func230.trans (congrArg some (by kernel_rfl))
 f165:=func174.trans (congrArg some (by kernel_rfl))
 f166:=func175.trans (congrArg some (by kernel_rfl))
 f169:=func176.trans (congrArg some (by kernel_rfl))
 f195:=func200.trans (congrArg some (by kernel_rfl))
 f197:=func201.trans (congrArg some (by kernel_rfl))
 f217:=func215.trans (congrArg some (by kernel_rfl))
 f218:=func202.trans (congrArg some (by kernel_rfl))
 f219:=func203.trans (congrArg some (by kernel_rfl))
 f224:=func225.trans (congrArg some (by kernel_rfl))
 f225:=func224.trans (congrArg some (by kernel_rfl))
 f240:=func210.trans (congrArg some (by kernel_rfl))
 f241:=func211.trans (congrArg some (by kernel_rfl))
 f260:=func223.trans (congrArg some (by kernel_rfl))
 f266:=func241.trans (congrArg some (by kernel_rfl))
 f267:=func226.trans (congrArg some (by kernel_rfl))
 f276:=func238.trans (congrArg some (by kernel_rfl))
 f277:=func239.trans (congrArg some (by kernel_rfl))
 f314:=func243.trans (congrArg some (by kernel_rfl))
 t0:=underlying0
 a0:=Tryz.isAgg0
 z0:=Tryz.sizeOf0
 v0:=Tryz.zeroValue0
 t3:=underlying3
 a3:=Tryz.isAgg3
 z3:=Tryz.sizeOf3
 v3:=Tryz.zeroValue3
 t4:=underlying4
 a4:=Tryz.isAgg4
 z4:=Tryz.sizeOf4
 v4:=Tryz.zeroValue4
 t5:=underlying5
 a5:=Tryz.isAgg5
 z5:=Tryz.sizeOf5
 v5:=Tryz.zeroValue5
 t9:=underlying9
 a9:=Tryz.isAgg9
 z9:=Tryz.sizeOf9
 v9:=Tryz.zeroValue9
 t20:=underlying20
 a20:=Tryz.isAgg20
 z20:=Tryz.sizeOf20
 v20:=Tryz.zeroValue20
 t21:=underlying21
 a21:=Tryz.isAgg21
 z21:=Tryz.sizeOf21
 v21:=Tryz.zeroValue21
 t37:=underlying65
 a37:=Tryz.isAgg65
 z37:=Tryz.sizeOf65
 v37:=Tryz.zeroValue65
 t46:=underlying176
 a46:=Tryz.isAgg176
 z46:=Tryz.sizeOf176
 v46:=Tryz.zeroValue176
 t51:=underlying211
 a51:=Tryz.isAgg211
 z51:=Tryz.sizeOf211
 v51:=Tryz.zeroValue211
 t70:=underlying219
 a70:=Tryz.isAgg219
 z70:=Tryz.sizeOf219
 v70:=Tryz.zeroValue219
 t72:=underlying221
 a72:=Tryz.isAgg221
 z72:=Tryz.sizeOf221
 v72:=Tryz.zeroValue221
 t75:=underlying224
 a75:=Tryz.isAgg224
 z75:=Tryz.sizeOf224
 v75:=Tryz.zeroValue224
 t76:=underlying225
 a76:=Tryz.isAgg225
 z76:=Tryz.sizeOf225
 v76:=Tryz.zeroValue225
 t105:=underlying216
 a105:=Tryz.isAgg216
 z105:=Tryz.sizeOf216
 v105:=Tryz.zeroValue216
 t119:=underlying276
 a119:=Tryz.isAgg276
 z119:=Tryz.sizeOf276
 t127:=underlying253
 a127:=Tryz.isAgg253
 z127:=Tryz.sizeOf253
 v127:=Tryz.zeroValue253
 t138:=underlying278
 a138:=Tryz.isAgg278
 z138:=Tryz.sizeOf278
 v138:=Tryz.zeroValue278
 t139:=underlying279
 a139:=Tryz.isAgg279
 z139:=Tryz.sizeOf279
 v139:=Tryz.zeroValue279
 t146:=underlying280
 a146:=Tryz.isAgg280
 z146:=Tryz.sizeOf280
 v146:=Tryz.zeroValue280
 t164:=underlying272
 a164:=Tryz.isAgg272
 z164:=Tryz.sizeOf272
 v164:=Tryz.zeroValue272
 g1:=by kernel_rfl
 g3:=by kernel_rfl
 g4:=by kernel_rfl}
theorem Tryz.Builder_Extra_155:Builder.Extra prog Tryz.lays155_ren:={
 sizeBuilder:=by kernel_rfl
 liesBuilder:=by kernel_rfl
 t5:=underlying5
 a5:=Tryz.isAgg5
 z5:=Tryz.sizeOf5
 v5:=Tryz.zeroValue5
 infoByte:=by kernel_rfl
 cellsByte:=by kernel_rfl
 sizeByte:=by kernel_rfl
 neB5:=by decide}
open Go.RowKit Go.Lib in
theorem Tryz.strings_ReplaceAll (s old new:ByteArray) (m:Int) (w:World) (hs:s.size<4294967281) (hm:w.cell? ⟨0,0,none⟩=some (.int .i64 m)) (h1:1≤old.size) (hlen:s.size+Lib.countB s old*new.size≤140737488355328):
 Calls prog 230 #[.string s, .string old, .string new] w fun e w'=>
  e= .returned (.string ⟨(Lib.replaceAll s.data.toList old.data.toList new.data.toList).toArray⟩)∧Below w.heap.size w w':=Any.strings_ReplaceAll Tryz.lays155 Tryz.Builder_Extra_155 s old new m w hs hm h1 hlen
def Tryz.lays105_ren:Go.Shelf.Ren:=⟨fun|105=>255|212=>266|99=>104|165=>174|166=>175|170=>267|169=>176|263=>274|264=>275|206=>137|240=>210|241=>211|276=>238|277=>239|n=>n,fun|9=>9|3=>3|4=>4|20=>20|0=>0|46=>176|109=>297|5=>5|72=>221|76=>225|51=>211|146=>280|53=>213|148=>307|70=>219|37=>65|75=>224|127=>253|164=>272|80=>227|n=>n,fun|n=>n⟩
theorem Tryz.lays105:Go.Proofs.Lays.n105 prog Tryz.lays105_ren:={
 mixed:=by kernel_rfl
 f99:=func104.trans (congrArg some (by kernel_rfl))
 f105:=func255.trans (congrArg some (by kernel_rfl))
 f165:=func174.trans (congrArg some (by kernel_rfl))
 f166:=func175.trans (congrArg some (by kernel_rfl))
 f169:=func176.trans (congrArg some (by kernel_rfl))
 f170:=func267.trans (congrArg some (by kernel_rfl))
 f206:=func137.trans (congrArg some (by kernel_rfl))
 f212:=func266.trans (congrArg some (by kernel_rfl))
 f240:=func210.trans (congrArg some (by kernel_rfl))
 f241:=func211.trans (congrArg some (by kernel_rfl))
 f263:=func274.trans (congrArg some (by kernel_rfl))
 f264:=func275.trans (congrArg some (by kernel_rfl))
 f276:=func238.trans (congrArg some (by kernel_rfl))
 f277:=func239.trans (congrArg some (by kernel_rfl))
 t0:=underlying0
 a0:=Tryz.isAgg0
 z0:=Tryz.sizeOf0
 v0:=Tryz.zeroValue0
 t3:=underlying3
 a3:=Tryz.isAgg3
 z3:=Tryz.sizeOf3
 v3:=Tryz.zeroValue3
 t4:=underlying4
 a4:=Tryz.isAgg4
 z4:=Tryz.sizeOf4
 v4:=Tryz.zeroValue4
 t5:=underlying5
 a5:=Tryz.isAgg5
 z5:=Tryz.sizeOf5
 v5:=Tryz.zeroValue5
 t9:=underlying9
 a9:=Tryz.isAgg9
 z9:=Tryz.sizeOf9
 v9:=Tryz.zeroValue9
 t20:=underlying20
 a20:=Tryz.isAgg20
 z20:=Tryz.sizeOf20
 v20:=Tryz.zeroValue20
 t37:=underlying65
 a37:=Tryz.isAgg65
 z37:=Tryz.sizeOf65
 v37:=Tryz.zeroValue65
 t46:=underlying176
 a46:=Tryz.isAgg176
 z46:=Tryz.sizeOf176
 v46:=Tryz.zeroValue176
 t51:=underlying211
 a51:=Tryz.isAgg211
 z51:=Tryz.sizeOf211
 v51:=Tryz.zeroValue211
 t53:=underlying213
 a53:=Tryz.isAgg213
 z53:=Tryz.sizeOf213
 v53:=Tryz.zeroValue213
 t70:=underlying219
 a70:=Tryz.isAgg219
 z70:=Tryz.sizeOf219
 v70:=Tryz.zeroValue219
 t72:=underlying221
 a72:=Tryz.isAgg221
 z72:=Tryz.sizeOf221
 v72:=Tryz.zeroValue221
 t75:=underlying224
 a75:=Tryz.isAgg224
 z75:=Tryz.sizeOf224
 v75:=Tryz.zeroValue224
 t76:=underlying225
 a76:=Tryz.isAgg225
 z76:=Tryz.sizeOf225
 v76:=Tryz.zeroValue225
 t109:=underlying297
 a109:=Tryz.isAgg297
 z109:=Tryz.sizeOf297
 v109:=Tryz.zeroValue297
 t127:=underlying253
 a127:=Tryz.isAgg253
 z127:=Tryz.sizeOf253
 v127:=Tryz.zeroValue253
 t146:=underlying280
 a146:=Tryz.isAgg280
 z146:=Tryz.sizeOf280
 v146:=Tryz.zeroValue280
 t148:=underlying307
 a148:=Tryz.isAgg307
 z148:=Tryz.sizeOf307
 v148:=Tryz.zeroValue307
 t164:=underlying272
 a164:=Tryz.isAgg272
 z164:=Tryz.sizeOf272
 v164:=Tryz.zeroValue272}
theorem Tryz.Builder_Extra_105:Builder.Extra prog Tryz.lays105_ren:={
 sizeBuilder:=by kernel_rfl
 liesBuilder:=by kernel_rfl
 t5:=underlying5
 a5:=Tryz.isAgg5
 z5:=Tryz.sizeOf5
 v5:=Tryz.zeroValue5
 infoByte:=by kernel_rfl
 cellsByte:=by kernel_rfl
 sizeByte:=by kernel_rfl
 neB5:=by decide}
open Go.RowKit Go.Lib in
theorem Tryz.strings_Repeat (s:ByteArray) (c:Nat) (w:World) (hc:c≤9223372036854775807) (hlen:s.size*c≤140737488355328):
 Calls prog 255 #[.string s, .int .i64 c] w fun e w'=>e= .returned (.string ⟨(Lib.repeatL s.data.toList c).toArray⟩)∧Below w.heap.size w w':=Any.strings_Repeat Tryz.lays105 Tryz.Builder_Extra_105 s c w hc hlen
def Tryz.laysNm217_ren:Go.Shelf.Ren:=⟨fun|17=>80|n=>n,fun|24=>34|9=>9|3=>3|4=>4|0=>0|n=>n,fun|n=>n⟩
theorem Tryz.laysNm217:Go.Proofs.Lays2.n17 prog Tryz.laysNm217_ren:={
 mixed:=by kernel_rfl
 f17:=func80.trans (congrArg some (by kernel_rfl))
 t0:=underlying0
 a0:=Tryz.isAgg0
 z0:=Tryz.sizeOf0
 v0:=Tryz.zeroValue0
 t3:=underlying3
 a3:=Tryz.isAgg3
 z3:=Tryz.sizeOf3
 v3:=Tryz.zeroValue3
 t4:=underlying4
 a4:=Tryz.isAgg4
 z4:=Tryz.sizeOf4
 v4:=Tryz.zeroValue4
 t9:=underlying9
 a9:=Tryz.isAgg9
 z9:=Tryz.sizeOf9
 v9:=Tryz.zeroValue9
 t24:=underlying34
 a24:=Tryz.isAgg34
 z24:=Tryz.sizeOf34
 v24:=Tryz.zeroValue34}
open Go.RowKit Go.Lib Go.Sort in
theorem Tryz.slices_Reverse_string_empty (a:Option Addr) (cap:Nat) (w:World):
 Calls prog 80 #[.slice a 0 cap] w fun e w'=>e= .returned (.tuple #[])∧w'=w:=Any.slices_Reverse_string_empty Tryz.laysNm217 a cap w
def Tryz.laysNm216_ren:Go.Shelf.Ren:=⟨fun|16=>108|n=>n,fun|24=>34|9=>9|4=>4|n=>n,fun|n=>n⟩
theorem Tryz.laysNm216:Go.Proofs.Lays2.n16 prog Tryz.laysNm216_ren:={
 mixed:=by kernel_rfl
 f16:=func108.trans (congrArg some (by kernel_rfl))
 t4:=underlying4
 a4:=Tryz.isAgg4
 z4:=Tryz.sizeOf4
 v4:=Tryz.zeroValue4
 t9:=underlying9
 a9:=Tryz.isAgg9
 z9:=Tryz.sizeOf9
 v9:=Tryz.zeroValue9
 t24:=underlying34
 a24:=Tryz.isAgg34
 z24:=Tryz.sizeOf34
 v24:=Tryz.zeroValue34
 i9:=by kernel_rfl}
open Go.RowKit Go.Lib in
theorem Tryz.slices_Clone_string (b off n c:Nat) (zs:List ByteArray) (w:World) (hz:n≤zs.length) (hbig:n*16≤140737488355328) (hc: ∀ j,j<zs.length→w.cell? ⟨b,off+j,none⟩=some (.string (zs.getD j ByteArray.empty))):
 Calls prog 108 #[.slice (some ⟨b,off,none⟩) n c] w fun e w'=> ∃ v',e= .returned v'∧w'.ownsRow w.heap.size 9 1 v' n ((zs.take n).map (Value.string))∧v'≠ .slice none 0 0∧Below w.heap.size w w':=Any.slices_Clone_string Tryz.laysNm216 b off n c zs w hz hbig hc
end Go.Proofs
