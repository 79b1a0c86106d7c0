import Derived.Below
import Derived.Lib.Hide
import Derived.Shelf.Strings.Builder1
import Derived.Shelf.Strings.Builder2
import Derived.Shelf.Strings.OnBuilder
import Derived.Shelf.Strings.Trim
import Derived.Shelf.Small.Utf8
import Derived.Shelf.Small.Bits
import Derived.Shelf.Small.Strs
import Derived.Shelf.Small.Wraps
import Derived.Shelf.Strings.BuilderF
import Derived.Shelf.Strings.BuilderK
import Derived.Shelf.Utf8.RuneCount
import Derived.Shelf.Strings.Builder2Cap
import Derived.Shelf.Strconv.Atoi
import Derived.Shelf.Strconv.Itoa0
import Derived.Shelf.Strconv.Itoa1
import Derived.Shelf.LaysM
import Derived.Shelf.Strconv.Itoa2
import Derived.Shelf.Strconv.Itoa3
import Derived.Shelf.Strconv.AtoiErrFast
import Derived.Shelf.Strconv.ParseIntEmpty
import Derived.Shelf.Strconv.AtoiFail
import Derived.Shelf.Strconv.Clone
import Derived.Shelf.Strconv.SyntaxError
import Derived.Shelf.LaysC
import Derived.Shelf.Strconv.ToError
import Derived.Shelf.Strconv.AtoiErr
import Derived.Shelf.Strconv.ErrVar
import Derived.Shelf.Strconv.Lower
import Derived.Shelf.Strconv.ParseUint10
import Derived.Shelf.Strconv.ParseUint10Empty
import Derived.Shelf.Strconv.ParseUint10Any
import Derived.Shelf.Strconv.ParseInt10
import Derived.Shelf.Strconv.AtoiLong
import Derived.Shelf.Strconv.AtoiInnerAll
import Derived.Shelf.Strconv.RangeError
import Derived.Shelf.Strconv.ToErrorRange
import Derived.Shelf.Strconv.AtoiAll
import Derived.Shelf.Strconv.ErrVarAll
import Derived.Shelf.Strconv.ParseUintEmpty
import Derived.Shelf.Strconv.ParseUint10b64
import Derived.Shelf.Strconv.ParseUint10b32
import Derived.Shelf.Strconv.ParseUint10b16
import Derived.Shelf.Strconv.ParseUint10b8
import Derived.Shelf.Strconv.ParseUint10At
import Derived.Shelf.Strconv.ParseInt10At64
import Derived.Shelf.Strconv.ParseInt10At32
import Derived.Shelf.Strconv.ParseInt10At16
import Derived.Shelf.Strconv.ParseInt10At8
import Derived.Shelf.Strconv.ParseInt10All
import Derived.Ground.MpProg
import Derived.Shelf.Pu.ParseUintPublic10
import Derived.Shelf.Pu.ErrVarParseUint
import Derived.Shelf.Strings.Search1
import Derived.Shelf.Strings.Search2
import Derived.Shelf.Strings.Search3
import Derived.Shelf.Strings.Cut
import Derived.Shelf.Strings.Count
import Derived.Shelf.Strings.Shaped
import Derived.Shelf.Strings.Prefix
import Derived.Shelf.Strings.Split
import Derived.Shelf.Strings.Replace
import Derived.Shelf.Strings.SplitShaped
import Derived.Shelf.Unicode.Decode
import Derived.Shelf.Strings.Runes
import Derived.Shelf.Strings.RuneCount
import Derived.Shelf.Strings.AsciiSet
import Derived.Shelf.Strings.Explode
import Derived.Shelf.Bits.Mul64
import Derived.Shelf.Strings.Repeat
import Derived.Shelf.Unicode.DecodeSlow
import Derived.Shelf.Unicode.DecodeAny
import Derived.Shelf.Unicode.DecodeLast
import Derived.Shelf.Strings.BuilderCap
import Derived.Shelf.Slices.Turned
import Derived.Shelf.Slices.Equal
import Derived.Ground.Names2Prog
import Derived.Shelf.Slices.ReverseS
import Derived.Shelf.Slices.Clone
import Derived.Shelf.Slices.Cells
import Derived.Shelf.Slices.Empties2
import Derived.Ground.SlsfProg
import Derived.Shelf.SlSortCmp.Insertion
import Derived.Shelf.SlSortCmp.SiftDown1
import Derived.Shelf.SlSortCmp.HeapSort1
import Derived.Shelf.SlSortCmp.Insertion1
import Derived.Shelf.SlSortCmp.Median1
import Derived.Shelf.SlSortCmp.Pivot1
import Derived.Shelf.SlSortCmp.ReverseRange1
import Derived.Shelf.SlSortCmp.PartialInsertion1
import Derived.Shelf.SlSortCmp.PartitionEqual1
import Derived.Shelf.SlSortCmp.Partition1
import Derived.Shelf.SlSortCmp.Pdq1
import Derived.Shelf.SlSortCmp.Whole1
import Derived.Shelf.SlSortCmp.NoneTotal
import Derived.Test.YtdamidelojccaaaGreatDoorProg
theorem Zpu {α : Type} : (∀ (l : List α) (i : Nat) (v : α), l.toArray.setIfInBounds i v = (l.set i v).toArray) ∧ (∀ (a : α) (l : List α) (v : α), (a :: l).set 0 v = v :: l) ∧ (∀ (a : α) (l : List α) (n : Nat) (v : α), (a :: l).set (n + 1) v = a :: l.set n v) :=
 ⟨fun _ _ _ => by simp, fun _ _ _ => rfl, fun _ _ _ _ => rfl⟩
theorem Zhd {p : Prop} (h : p) : Go.RowKit.Hid p := Go.Lib.hid h
abbrev Yaa := @List.setIfInBounds_toArray
abbrev Yab := @if_neg
abbrev Yac := @Go.RowKit.Below.refl
abbrev Yad := @List.length_take
abbrev Yae := @decide_eq_false
abbrev Yaf := @Nat.le_refl
abbrev Yag := @List.getElem?_eq_getElem
abbrev Yah := @List.set_cons_zero
abbrev Yai := @List.set_cons_succ
abbrev Yaj := @List.length_append
abbrev Yak := @beq_eq_false_iff_ne
abbrev Yal := @decide_eq_true
abbrev Yam := @List.length_drop
abbrev Yan := @if_pos
abbrev Yao := @decide_eq_true_eq
abbrev Yap := @List.getD_eq_getElem?_getD
abbrev Yaq := @List.eq_nil_of_length_eq_zero
abbrev Yar := @Bool.and_eq_true
abbrev Yas := @Nat.le_trans
abbrev Yat := @List.getElem_mem
abbrev Yau := @List.take_succ_eq_append_getElem
abbrev Yav := @Nat.zero_le
abbrev Yaw := @List.mem_cons
abbrev Yax := @List.length_map
abbrev Yay := @List.drop_eq_getElem_cons
abbrev Yaz := @Array.length_toList
abbrev Yba := @List.getElem?_eq_some_iff
abbrev Ybb := @Nat.min_eq_left
abbrev Ybc := @Array.getElem?_eq_some_iff
abbrev Ybd := @List.drop_eq_nil_of_le
abbrev Ybe := @Array.all_eq_true_iff_forall_mem
abbrev Ybf := @Nat.zero_add
abbrev Ybg := @List.append_nil
abbrev Ybh := @List.getElem?_append_right
abbrev Ybi := @List.length_cons
abbrev Ybj := @List.take_of_length_le
abbrev Ybk := @List.take_append_drop
abbrev Ybl := @List.append_assoc
abbrev Ybm := @List.mem_append
abbrev Ybn := @Nat.eq_zero_or_pos
abbrev Ybo := @List.getElem_of_mem
abbrev Ybp := @Nat.lt_or_ge
abbrev Ybq := @Int.toNat_natCast
abbrev Ybr := @List.all_eq_true
abbrev Ybs := @List.map_append
abbrev Ybt := @List.flatMap_cons
abbrev Ybu := @List.getLastD_eq_getLast?
abbrev Ybv := @List.not_mem_nil
abbrev Ybw := @List.take_length
abbrev Ybx := @Nat.lt_of_lt_of_le
abbrev Yby := @List.length_singleton
abbrev Ybz := @UInt8.toNat_inj
abbrev Yca := @Int.eq_ofNat_of_zero_le
abbrev Ycb := @List.pairwise_cons
abbrev Ycc := @List.length_filter_le
abbrev Ycd := @List.take_append_of_le_length
abbrev Yce := @List.mem_singleton
abbrev Ycf := @List.getElem?_append_left
abbrev Ycg := @List.mem_cons_of_mem
abbrev Ych := @List.cons_append
abbrev Yci := @List.mem_cons_self
abbrev Ycj := @Bool.eq_iff_iff
abbrev Yck := @List.flatMap_append
abbrev Ycl := @List.length_set
abbrev Ycm := @List.dropLast_append_of_ne_nil
abbrev Ycn := @List.length_dropLast
abbrev Yco := @List.filter_append
abbrev Ycp := @List.getElem?_take
abbrev Ycq := @Array.getElem?_setIfInBounds
abbrev Ycr := @List.getLast?_append
abbrev Ycs := @List.getElem?_map
abbrev Yct := @List.getElem_take
abbrev Ycu := @List.take_take
abbrev Ycv := @List.all_cons
abbrev Ycw := @List.length_eq_zero_iff
abbrev Ycx := @List.length_pos_iff
abbrev Ycy := @Bool.eq_false_iff
abbrev Ycz := @List.mem_range
abbrev Yda := @List.mem_map
abbrev Ydb := @List.getElem?_drop
abbrev Ydc := @Array.getElem?_modify
abbrev Ydd := @List.getElem?_toArray
abbrev Yde := @List.mem_filter
abbrev Ydf := @List.getLast?_eq_getElem?
abbrev Ydg := @Nat.add_assoc
abbrev Ydh := @List.drop_length
abbrev Ydi := @List.mem_flatMap
abbrev Ydj := @List.getElem_map
abbrev Ydk := @List.dropLast_eq_take
abbrev Ydl := @List.getElem_drop
abbrev Ydm := @Nat.mul_le_mul
abbrev Ydn := @List.range_succ
abbrev Ydo := @List.nodup_iff_pairwise_ne
abbrev Ydp := @List.length_reverse
abbrev Ydq := @Nat.min_def
abbrev Ydr := @Bool.true_and
abbrev Yds := @List.pairwise_iff_getElem
abbrev Ydt := @List.take_left'
abbrev Ydu := @Bool.false_eq_true
abbrev Ydv := @List.getElem_append_left
abbrev Ydw := @Nat.add_sub_cancel_left
abbrev Ydx := @List.length_nil
abbrev Ydy := @Array.getElem?_eq_none
abbrev Ydz := @Array.toList_inj
abbrev Yea := @Nat.add_sub_cancel
abbrev Yeb := @Int.lt_or_eq_of_le
abbrev Yec := @List.getElem_append_right
abbrev Yed := @List.dropLast_concat
abbrev Yee := @List.size_toArray
abbrev Yef := @Nat.add_zero
abbrev Yeg := @Nat.and_two_pow_sub_one_eq_mod
abbrev Yeh := @Nat.le_of_lt
abbrev Yei := @List.drop_zero
abbrev Yej := @List.lt_irrefl
abbrev Yek := @List.getElem_cons_zero
abbrev Yel := @List.length_eq_one_iff
abbrev Yem := @List.append_eq_nil_iff
abbrev Yen := @Nat.mul_comm
abbrev Yeo := @List.map_map
abbrev Yep := @Nat.sub_self
abbrev Yeq := @Nat.not_lt_zero
abbrev Yer := @Bool.not_eq_true'
abbrev Yes := @List.length_range
abbrev Yet := @Nat.mul_le_mul_right
abbrev Yeu := @Nat.pow_le_pow_right
abbrev Yev := @Bool.or_eq_false_iff
abbrev Yew := @List.pairwise_append
abbrev Yex := @List.mem_of_mem_drop
abbrev Yey := @List.mem_iff_getElem
abbrev Yez := @Option.getD_some
abbrev Yfa := @Int.lt_or_le
namespace Go.Proofs
open Go.Shelf
def Tryz.lays156_ren : Go.Shelf.Ren := ⟨fun | 156 => 122 | 165 => 157 | 166 => 158 | 169 => 159 | 240 => 193 | 241 => 194 | 276 => 221 | 277 => 222 | n => n, fun | 31 => 33 | 9 => 9 | 3 => 3 | 4 => 4 | 0 => 0 | 20 => 20 | 72 => 217 | 76 => 221 | 70 => 214 | 37 => 215 | 75 => 220 | 127 => 249 | 164 => 269 | 5 => 5 | 80 => 223 | n => n, fun | n => n⟩
theorem Tryz.lays156 : Go.Proofs.Lays.n156 prog Tryz.lays156_ren := {
 mixed := by kernel_rfl
 f156 := func122.trans (congrArg some (by kernel_rfl))
 f165 := func157.trans (congrArg some (by kernel_rfl))
 f166 := func158.trans (congrArg some (by kernel_rfl))
 f169 := func159.trans (congrArg some (by kernel_rfl))
 f240 := func193.trans (congrArg some (by kernel_rfl))
 f241 := func194.trans (congrArg some (by kernel_rfl))
 f276 := func221.trans (congrArg some (by kernel_rfl))
 f277 := func222.trans (congrArg some (by kernel_rfl))
 t0 := underlying0
 a0 := Tryz.isAgg0
 z0 := Tryz.sizeOf0
 v0 := Tryz.zeroValue0
 t3 := underlying3
 a3 := Tryz.isAgg3
 z3 := Tryz.sizeOf3
 v3 := Tryz.zeroValue3
 t4 := underlying4
 a4 := Tryz.isAgg4
 z4 := Tryz.sizeOf4
 v4 := Tryz.zeroValue4
 t9 := underlying9
 a9 := Tryz.isAgg9
 z9 := Tryz.sizeOf9
 v9 := Tryz.zeroValue9
 t20 := underlying20
 a20 := Tryz.isAgg20
 z20 := Tryz.sizeOf20
 v20 := Tryz.zeroValue20
 t31 := underlying33
 a31 := Tryz.isAgg33
 z31 := Tryz.sizeOf33
 v31 := Tryz.zeroValue33
 t37 := underlying215
 a37 := Tryz.isAgg215
 z37 := Tryz.sizeOf215
 v37 := Tryz.zeroValue215
 t70 := underlying214
 a70 := Tryz.isAgg214
 z70 := Tryz.sizeOf214
 v70 := Tryz.zeroValue214
 t72 := underlying217
 a72 := Tryz.isAgg217
 z72 := Tryz.sizeOf217
 v72 := Tryz.zeroValue217
 t75 := underlying220
 a75 := Tryz.isAgg220
 z75 := Tryz.sizeOf220
 v75 := Tryz.zeroValue220
 t76 := underlying221
 a76 := Tryz.isAgg221
 z76 := Tryz.sizeOf221
 v76 := Tryz.zeroValue221
 t127 := underlying249
 a127 := Tryz.isAgg249
 z127 := Tryz.sizeOf249
 v127 := Tryz.zeroValue249
 t164 := underlying269
 a164 := Tryz.isAgg269
 z164 := Tryz.sizeOf269
 v164 := Tryz.zeroValue269 }
theorem Tryz.Builder_Extra_156 : Builder.Extra prog Tryz.lays156_ren := {
 sizeBuilder := by kernel_rfl
 liesBuilder := by kernel_rfl
 t5 := underlying5
 a5 := Tryz.isAgg5
 z5 := Tryz.sizeOf5
 v5 := Tryz.zeroValue5
 infoByte := by kernel_rfl
 cellsByte := by kernel_rfl
 sizeByte := by kernel_rfl
 neB5 := by decide }
open Go.RowKit in
theorem Tryz.strings_Join_none (a : Option Addr) (c : Nat) (sep : ByteArray) (w : World) :
 Calls prog 122 #[.slice a 0 c, .string sep] w fun e w' => e = .returned (.string ⟨#[]⟩) ∧ w' = w := Any.strings_Join_none Tryz.lays156 Tryz.Builder_Extra_156 a c sep w
open Go.RowKit in
theorem Tryz.strings_Join (bk o c : Nat) (xs : List ByteArray) (sep : ByteArray) (w : World) (hcells : ∀ (j : Nat) x, xs[j]? = some x → w.cell? ⟨bk, o + j, none⟩ = some (.string x)) (hbk : bk < w.heap.size) (hN : xs.length ≤ 140737488355328) (hcap : xs.length ≤ c) (hlen : (Lib.join (xs.map (·.data.toList)) sep.data.toList).length ≤ 140737488355328) :
 Calls prog 122 #[.slice (some ⟨bk, o, none⟩) xs.length c, .string sep] w fun e w' => e = .returned (.string ⟨(Lib.join (xs.map (·.data.toList)) sep.data.toList).toArray⟩) ∧ Below w.heap.size w w' := Any.strings_Join Tryz.lays156 Tryz.Builder_Extra_156 bk o c xs sep w hcells hbk hN hcap hlen
def Tryz.lays162_ren : Go.Shelf.Ren := ⟨fun | 162 => 81 | 232 => 113 | 227 => 114 | 234 => 115 | 236 => 116 | 228 => 153 | 271 => 154 | 151 => 155 | 120 => 187 | 197 => 184 | 152 => 188 | 260 => 206 | 137 => 163 | 119 => 210 | 224 => 208 | 225 => 207 | 217 => 198 | 266 => 224 | n => n, fun | 9 => 9 | 4 => 4 | 3 => 3 | 5 => 5 | 117 => 178 | 116 => 177 | 0 => 0 | 124 => 181 | 21 => 21 | 105 => 211 | 46 => 170 | 119 => 273 | 139 => 276 | 138 => 275 | n => n, fun | 3 => 1 | 4 => 2 | n => n⟩
theorem Tryz.lays162 : Go.Proofs.Lays.n162 prog Tryz.lays162_ren := {
 mixed := by kernel_rfl
 f119 := func210.trans (congrArg some (by kernel_rfl))
 f120 := func187.trans (congrArg some (by kernel_rfl))
 f137 := func163.trans (congrArg some (by kernel_rfl))
 f151 := func155.trans (congrArg some (by kernel_rfl))
 f152 := func188.trans (congrArg some (by kernel_rfl))
 f162 := func81.trans (congrArg some (by kernel_rfl))
 f197 := func184.trans (congrArg some (by kernel_rfl))
 f217 := func198.trans (congrArg some (by kernel_rfl))
 f224 := func208.trans (congrArg some (by kernel_rfl))
 f225 := func207.trans (congrArg some (by kernel_rfl))
 f227 := func114.trans (congrArg some (by kernel_rfl))
 f228 := func153.trans (congrArg some (by kernel_rfl))
 f232 := func113.trans (congrArg some (by kernel_rfl))
 f234 := func115.trans (congrArg some (by kernel_rfl))
 f236 := func116.trans (congrArg some (by kernel_rfl))
 f260 := func206.trans (congrArg some (by kernel_rfl))
 f266 := func224.trans (congrArg some (by kernel_rfl))
 f271 := func154.trans (congrArg some (by kernel_rfl))
 t0 := underlying0
 a0 := Tryz.isAgg0
 z0 := Tryz.sizeOf0
 v0 := Tryz.zeroValue0
 t3 := underlying3
 a3 := Tryz.isAgg3
 z3 := Tryz.sizeOf3
 v3 := Tryz.zeroValue3
 t4 := underlying4
 a4 := Tryz.isAgg4
 z4 := Tryz.sizeOf4
 v4 := Tryz.zeroValue4
 t5 := underlying5
 a5 := Tryz.isAgg5
 z5 := Tryz.sizeOf5
 v5 := Tryz.zeroValue5
 t9 := underlying9
 a9 := Tryz.isAgg9
 z9 := Tryz.sizeOf9
 v9 := Tryz.zeroValue9
 t21 := underlying21
 a21 := Tryz.isAgg21
 z21 := Tryz.sizeOf21
 v21 := Tryz.zeroValue21
 t46 := underlying170
 a46 := Tryz.isAgg170
 z46 := Tryz.sizeOf170
 v46 := Tryz.zeroValue170
 t105 := underlying211
 a105 := Tryz.isAgg211
 z105 := Tryz.sizeOf211
 v105 := Tryz.zeroValue211
 t116 := underlying177
 a116 := Tryz.isAgg177
 z116 := Tryz.sizeOf177
 t117 := underlying178
 a117 := Tryz.isAgg178
 z117 := Tryz.sizeOf178
 v117 := Tryz.zeroValue178
 t119 := underlying273
 a119 := Tryz.isAgg273
 z119 := Tryz.sizeOf273
 t124 := underlying181
 a124 := Tryz.isAgg181
 z124 := Tryz.sizeOf181
 v124 := Tryz.zeroValue181
 t138 := underlying275
 a138 := Tryz.isAgg275
 z138 := Tryz.sizeOf275
 v138 := Tryz.zeroValue275
 t139 := underlying276
 a139 := Tryz.isAgg276
 z139 := Tryz.sizeOf276
 v139 := Tryz.zeroValue276
 g3 := by kernel_rfl
 g4 := by kernel_rfl }
def Tryz.lays160_ren : Go.Shelf.Ren := ⟨fun | 160 => 211 | 232 => 113 | 231 => 227 | 227 => 114 | 234 => 115 | 233 => 228 | 236 => 116 | 235 => 229 | 228 => 153 | 271 => 154 | 151 => 155 | 197 => 184 | 120 => 187 | 152 => 188 | 260 => 206 | 137 => 163 | 119 => 210 | 224 => 208 | 225 => 207 | 217 => 198 | 266 => 224 | n => n, fun | 9 => 9 | 4 => 4 | 3 => 3 | 5 => 5 | 117 => 178 | 116 => 177 | 0 => 0 | 124 => 181 | 21 => 21 | 105 => 211 | 46 => 170 | 119 => 273 | 139 => 276 | 138 => 275 | n => n, fun | 3 => 1 | 4 => 2 | n => n⟩
theorem Tryz.lays160 : Go.Proofs.Lays.n160 prog Tryz.lays160_ren := {
 mixed := by kernel_rfl
 f119 := func210.trans (congrArg some (by kernel_rfl))
 f120 := func187.trans (congrArg some (by kernel_rfl))
 f137 := func163.trans (congrArg some (by kernel_rfl))
 f151 := func155.trans (congrArg some (by kernel_rfl))
 f152 := func188.trans (congrArg some (by kernel_rfl))
 f160 := func211.trans (congrArg some (by kernel_rfl))
 f197 := func184.trans (congrArg some (by kernel_rfl))
 f217 := func198.trans (congrArg some (by kernel_rfl))
 f224 := func208.trans (congrArg some (by kernel_rfl))
 f225 := func207.trans (congrArg some (by kernel_rfl))
 f227 := func114.trans (congrArg some (by kernel_rfl))
 f228 := func153.trans (congrArg some (by kernel_rfl))
 f231 := func227.trans (congrArg some (by kernel_rfl))
 f232 := func113.trans (congrArg some (by kernel_rfl))
 f233 := func228.trans (congrArg some (by kernel_rfl))
 f234 := func115.trans (congrArg some (by kernel_rfl))
 f235 := func229.trans (congrArg some (by kernel_rfl))
 f236 := func116.trans (congrArg some (by kernel_rfl))
 f260 := func206.trans (congrArg some (by kernel_rfl))
 f266 := func224.trans (congrArg some (by kernel_rfl))
 f271 := func154.trans (congrArg some (by kernel_rfl))
 t0 := underlying0
 a0 := Tryz.isAgg0
 z0 := Tryz.sizeOf0
 v0 := Tryz.zeroValue0
 t3 := underlying3
 a3 := Tryz.isAgg3
 z3 := Tryz.sizeOf3
 v3 := Tryz.zeroValue3
 t4 := underlying4
 a4 := Tryz.isAgg4
 z4 := Tryz.sizeOf4
 v4 := Tryz.zeroValue4
 t5 := underlying5
 a5 := Tryz.isAgg5
 z5 := Tryz.sizeOf5
 v5 := Tryz.zeroValue5
 t9 := underlying9
 a9 := Tryz.isAgg9
 z9 := Tryz.sizeOf9
 v9 := Tryz.zeroValue9
 t21 := underlying21
 a21 := Tryz.isAgg21
 z21 := Tryz.sizeOf21
 v21 := Tryz.zeroValue21
 t46 := underlying170
 a46 := Tryz.isAgg170
 z46 := Tryz.sizeOf170
 v46 := Tryz.zeroValue170
 t105 := underlying211
 a105 := Tryz.isAgg211
 z105 := Tryz.sizeOf211
 v105 := Tryz.zeroValue211
 t116 := underlying177
 a116 := Tryz.isAgg177
 z116 := Tryz.sizeOf177
 t117 := underlying178
 a117 := Tryz.isAgg178
 z117 := Tryz.sizeOf178
 v117 := Tryz.zeroValue178
 t119 := underlying273
 a119 := Tryz.isAgg273
 z119 := Tryz.sizeOf273
 t124 := underlying181
 a124 := Tryz.isAgg181
 z124 := Tryz.sizeOf181
 v124 := Tryz.zeroValue181
 t138 := underlying275
 a138 := Tryz.isAgg275
 z138 := Tryz.sizeOf275
 v138 := Tryz.zeroValue275
 t139 := underlying276
 a139 := Tryz.isAgg276
 z139 := Tryz.sizeOf276
 v139 := Tryz.zeroValue276
 g3 := by kernel_rfl
 g4 := by kernel_rfl }
def Tryz.lays106_ren : Go.Shelf.Ren := ⟨fun | 106 => 103 | 213 => 136 | 265 => 176 | n => n, fun | 9 => 9 | 3 => 3 | n => n, fun | n => n⟩
theorem Tryz.lays106 : Go.Proofs.Lays.n106 prog Tryz.lays106_ren := {
 mixed := by kernel_rfl
 f106 := func103.trans (congrArg some (by kernel_rfl))
 f213 := func136.trans (congrArg some (by kernel_rfl))
 f265 := func176.trans (congrArg some (by kernel_rfl))
 t3 := underlying3
 a3 := Tryz.isAgg3
 z3 := Tryz.sizeOf3
 v3 := Tryz.zeroValue3
 t9 := underlying9
 a9 := Tryz.isAgg9
 z9 := Tryz.sizeOf9
 v9 := Tryz.zeroValue9 }
open Go.RowKit in
theorem Tryz.strings_Compare (a b : ByteArray) (w : World) :
 Calls prog 103 #[.string a, .string b] w fun e w' => e = .returned (.int .i64 (Lib.compareBytes a.data.toList b.data.toList)) ∧ w' = w := Any.strings_Compare Tryz.lays106 a b w
def Tryz.lays137_ren : Go.Shelf.Ren := ⟨fun | 137 => 163 | 217 => 198 | 266 => 224 | n => n, fun | 9 => 9 | 5 => 5 | 3 => 3 | n => n, fun | n => n⟩
theorem Tryz.lays137 : Go.Proofs.Lays.n137 prog Tryz.lays137_ren := {
 mixed := by kernel_rfl
 f137 := func163.trans (congrArg some (by kernel_rfl))
 f217 := func198.trans (congrArg some (by kernel_rfl))
 f266 := func224.trans (congrArg some (by kernel_rfl))
 t3 := underlying3
 a3 := Tryz.isAgg3
 z3 := Tryz.sizeOf3
 v3 := Tryz.zeroValue3
 t5 := underlying5
 a5 := Tryz.isAgg5
 z5 := Tryz.sizeOf5
 v5 := Tryz.zeroValue5
 t9 := underlying9
 a9 := Tryz.isAgg9
 z9 := Tryz.sizeOf9
 v9 := Tryz.zeroValue9 }
open Go.RowKit in
theorem Tryz.strings_IndexByte (s : ByteArray) (c : Int) (w : World) :
 Calls prog 163 #[.string s, .int .u8 c] w fun e w' => e = .returned (.int .i64 (Lib.indexByte s.data.toList c.toNat.toUInt8)) ∧ w' = w := Any.strings_IndexByte Tryz.lays137 s c w
def Tryz.lays103_ren : Go.Shelf.Ren := ⟨fun | 103 => 218 | 210 => 237 | 206 => 120 | n => n, fun | 9 => 9 | 4 => 4 | 24 => 229 | 3 => 3 | n => n, fun | n => n⟩
theorem Tryz.lays103 : Go.Proofs.Lays.n103 prog Tryz.lays103_ren := {
 mixed := by kernel_rfl
 f103 := func218.trans (congrArg some (by kernel_rfl))
 f206 := func120.trans (congrArg some (by kernel_rfl))
 f210 := func237.trans (congrArg some (by kernel_rfl))
 t3 := underlying3
 a3 := Tryz.isAgg3
 z3 := Tryz.sizeOf3
 v3 := Tryz.zeroValue3
 t4 := underlying4
 a4 := Tryz.isAgg4
 z4 := Tryz.sizeOf4
 v4 := Tryz.zeroValue4
 t9 := underlying9
 a9 := Tryz.isAgg9
 z9 := Tryz.sizeOf9
 v9 := Tryz.zeroValue9
 t24 := underlying229
 a24 := Tryz.isAgg229
 z24 := Tryz.sizeOf229
 v24 := Tryz.zeroValue229 }
open Go.RowKit in
theorem Tryz.strings_CutPrefix (s p : ByteArray) (w : World) :
 Calls prog 218 #[.string s, .string p] w fun e w' => e = .returned (.tuple #[.string ⟨(Lib.trimPrefix s.data.toList p.data.toList).toArray⟩, .bool (Lib.hasPrefix s.data.toList p.data.toList)]) ∧ w' = w := Any.strings_CutPrefix Tryz.lays103 s p w
def Tryz.laysM171_ren : Go.Shelf.Ren := ⟨fun | 171 => 216 | 243 => 234 | 246 => 248 | 283 => 253 | 284 => 254 | 285 => 255 | 286 => 256 | 129 => 146 | 317 => 259 | 318 => 260 | 319 => 261 | 320 => 262 | 337 => 263 | 338 => 264 | n => n, fun | 3 => 3 | 9 => 9 | 2 => 2 | 4 => 4 | 171 => 300 | 0 => 0 | 53 => 207 | 37 => 215 | 5 => 5 | 173 => 302 | 212 => 311 | 51 => 205 | 20 => 20 | 213 => 312 | 46 => 170 | 232 => 313 | 233 => 314 | n => n, fun | 17 => 6 | 18 => 7 | 19 => 8 | n => n⟩
theorem Tryz.laysM171 : Go.Proofs.LaysM.n171 prog Tryz.laysM171_ren := {
 mixed := by kernel_rfl
 f129 := func146.trans (congrArg some (by kernel_rfl))
 f171 := func216.trans (congrArg some (by kernel_rfl))
 f243 := func234.trans (congrArg some (by kernel_rfl))
 f246 := func248.trans (congrArg some (by kernel_rfl))
 f283 := func253.trans (congrArg some (by kernel_rfl))
 f284 := func254.trans (congrArg some (by kernel_rfl))
 f285 := func255.trans (congrArg some (by kernel_rfl))
 f286 := func256.trans (congrArg some (by kernel_rfl))
 f317 := func259.trans (congrArg some (by kernel_rfl))
 f318 := func260.trans (congrArg some (by kernel_rfl))
 f319 := func261.trans (congrArg some (by kernel_rfl))
 f320 := func262.trans (congrArg some (by kernel_rfl))
 f337 := func263.trans (congrArg some (by kernel_rfl))
 f338 := func264.trans (congrArg some (by kernel_rfl))
 t0 := underlying0
 a0 := Tryz.isAgg0
 z0 := Tryz.sizeOf0
 v0 := Tryz.zeroValue0
 t2 := underlying2
 a2 := Tryz.isAgg2
 z2 := Tryz.sizeOf2
 v2 := Tryz.zeroValue2
 t3 := underlying3
 a3 := Tryz.isAgg3
 z3 := Tryz.sizeOf3
 v3 := Tryz.zeroValue3
 t4 := underlying4
 a4 := Tryz.isAgg4
 z4 := Tryz.sizeOf4
 v4 := Tryz.zeroValue4
 t5 := underlying5
 a5 := Tryz.isAgg5
 z5 := Tryz.sizeOf5
 v5 := Tryz.zeroValue5
 t9 := underlying9
 a9 := Tryz.isAgg9
 z9 := Tryz.sizeOf9
 v9 := Tryz.zeroValue9
 t20 := underlying20
 a20 := Tryz.isAgg20
 z20 := Tryz.sizeOf20
 v20 := Tryz.zeroValue20
 t37 := underlying215
 a37 := Tryz.isAgg215
 z37 := Tryz.sizeOf215
 v37 := Tryz.zeroValue215
 t46 := underlying170
 a46 := Tryz.isAgg170
 z46 := Tryz.sizeOf170
 v46 := Tryz.zeroValue170
 t51 := underlying205
 a51 := Tryz.isAgg205
 z51 := Tryz.sizeOf205
 v51 := Tryz.zeroValue205
 t53 := underlying207
 a53 := Tryz.isAgg207
 z53 := Tryz.sizeOf207
 v53 := Tryz.zeroValue207
 t171 := underlying300
 a171 := Tryz.isAgg300
 z171 := Tryz.sizeOf300
 v171 := Tryz.zeroValue300
 t173 := underlying302
 a173 := Tryz.isAgg302
 z173 := Tryz.sizeOf302
 v173 := Tryz.zeroValue302
 t212 := underlying311
 a212 := Tryz.isAgg311
 z212 := Tryz.sizeOf311
 v212 := Tryz.zeroValue311
 t213 := underlying312
 a213 := Tryz.isAgg312
 z213 := Tryz.sizeOf312
 t232 := underlying313
 a232 := Tryz.isAgg313
 z232 := Tryz.sizeOf313
 v232 := Tryz.zeroValue313
 t233 := underlying314
 a233 := Tryz.isAgg314
 z233 := Tryz.sizeOf314
 v233 := Tryz.zeroValue314
 g17 := by kernel_rfl
 g18 := by kernel_rfl
 g19 := by kernel_rfl
 i0 := by kernel_rfl
 i2 := by kernel_rfl
 i3 := by kernel_rfl
 i4 := by kernel_rfl
 i5 := by kernel_rfl
 i9 := by kernel_rfl
 i20 := by kernel_rfl
 i37 := by kernel_rfl
 i46 := by kernel_rfl
 i51 := by kernel_rfl
 i53 := by kernel_rfl
 i171 := by kernel_rfl
 i173 := by kernel_rfl
 i212 := by kernel_rfl
 i232 := by kernel_rfl
 i233 := by kernel_rfl
 m17 := by kernel_rfl
 m18 := by kernel_rfl
 m19 := by kernel_rfl }
open Go.RowKit Go.Sort Go.Lib in
theorem Tryz.strconv_Itoa (n : Int) (h0 : -9223372036854775808 ≤ n) (h1 : n ≤ 9223372036854775807) (w : World) (htab : Lib.TabIs prog w "internal/strconv.uint64pow10" .u64 Lib.pow10Tab) :
 Calls prog 216 #[.int .i64 n] w fun e w' => e = .returned (.string ⟨(Lib.itoa n).toArray⟩) ∧ ∃ k os, w' = grow (w.drewN k) os := Any.strconv_Itoa Tryz.laysM171 n h0 h1 w htab
def Tryz.laysC172_ren : Go.Shelf.Ren := ⟨fun | 172 => 215 | 244 => 233 | 245 => 231 | 247 => 247 | 279 => 243 | 280 => 244 | 281 => 245 | 282 => 246 | 287 => 230 | 316 => 251 | 171 => 216 | 205 => 252 | 321 => 241 | 322 => 242 | 243 => 234 | 246 => 248 | 283 => 253 | 284 => 254 | 285 => 255 | 286 => 256 | 129 => 146 | 317 => 259 | 318 => 260 | 319 => 261 | 320 => 262 | 337 => 263 | 338 => 264 | n => n, fun | 9 => 9 | 3 => 3 | 75 => 220 | 76 => 221 | 4 => 4 | 5 => 5 | 167 => 286 | 37 => 215 | 0 => 0 | 85 => 291 | 2 => 2 | 168 => 288 | 53 => 207 | 175 => 262 | 46 => 170 | 210 => 298 | 127 => 249 | 145 => 309 | 143 => 307 | 21 => 21 | 171 => 300 | 173 => 302 | 212 => 311 | 51 => 205 | 20 => 20 | 213 => 312 | 232 => 313 | 233 => 314 | 80 => 223 | n => n, fun | 15 => 4 | 16 => 5 | 17 => 6 | 18 => 7 | 19 => 8 | n => n⟩
theorem Tryz.laysC172 : Go.Proofs.LaysC.n172 prog Tryz.laysC172_ren := {
 mixed := by kernel_rfl
 f129 := func146.trans (congrArg some (by kernel_rfl))
 f171 := func216.trans (congrArg some (by kernel_rfl))
 f172 := func215.trans (congrArg some (by kernel_rfl))
 f205 := func252.trans (congrArg some (by kernel_rfl))
 f243 := func234.trans (congrArg some (by kernel_rfl))
 f244 := func233.trans (congrArg some (by kernel_rfl))
 f245 := func231.trans (congrArg some (by kernel_rfl))
 f246 := func248.trans (congrArg some (by kernel_rfl))
 f247 := func247.trans (congrArg some (by kernel_rfl))
 f279 := func243.trans (congrArg some (by kernel_rfl))
 f280 := func244.trans (congrArg some (by kernel_rfl))
 f281 := func245.trans (congrArg some (by kernel_rfl))
 f282 := func246.trans (congrArg some (by kernel_rfl))
 f283 := func253.trans (congrArg some (by kernel_rfl))
 f284 := func254.trans (congrArg some (by kernel_rfl))
 f285 := func255.trans (congrArg some (by kernel_rfl))
 f286 := func256.trans (congrArg some (by kernel_rfl))
 f287 := func230.trans (congrArg some (by kernel_rfl))
 f316 := func251.trans (congrArg some (by kernel_rfl))
 f317 := func259.trans (congrArg some (by kernel_rfl))
 f318 := func260.trans (congrArg some (by kernel_rfl))
 f319 := func261.trans (congrArg some (by kernel_rfl))
 f320 := func262.trans (congrArg some (by kernel_rfl))
 f321 := func241.trans (congrArg some (by kernel_rfl))
 f322 := func242.trans (congrArg some (by kernel_rfl))
 f337 := func263.trans (congrArg some (by kernel_rfl))
 f338 := func264.trans (congrArg some (by kernel_rfl))
 t0 := underlying0
 a0 := Tryz.isAgg0
 z0 := Tryz.sizeOf0
 v0 := Tryz.zeroValue0
 t2 := underlying2
 a2 := Tryz.isAgg2
 z2 := Tryz.sizeOf2
 v2 := Tryz.zeroValue2
 t3 := underlying3
 a3 := Tryz.isAgg3
 z3 := Tryz.sizeOf3
 v3 := Tryz.zeroValue3
 t4 := underlying4
 a4 := Tryz.isAgg4
 z4 := Tryz.sizeOf4
 v4 := Tryz.zeroValue4
 t5 := underlying5
 a5 := Tryz.isAgg5
 z5 := Tryz.sizeOf5
 v5 := Tryz.zeroValue5
 t9 := underlying9
 a9 := Tryz.isAgg9
 z9 := Tryz.sizeOf9
 v9 := Tryz.zeroValue9
 t20 := underlying20
 a20 := Tryz.isAgg20
 z20 := Tryz.sizeOf20
 v20 := Tryz.zeroValue20
 t21 := underlying21
 a21 := Tryz.isAgg21
 z21 := Tryz.sizeOf21
 v21 := Tryz.zeroValue21
 t37 := underlying215
 a37 := Tryz.isAgg215
 z37 := Tryz.sizeOf215
 v37 := Tryz.zeroValue215
 t46 := underlying170
 a46 := Tryz.isAgg170
 z46 := Tryz.sizeOf170
 v46 := Tryz.zeroValue170
 t51 := underlying205
 a51 := Tryz.isAgg205
 z51 := Tryz.sizeOf205
 v51 := Tryz.zeroValue205
 t53 := underlying207
 a53 := Tryz.isAgg207
 z53 := Tryz.sizeOf207
 v53 := Tryz.zeroValue207
 t75 := underlying220
 a75 := Tryz.isAgg220
 z75 := Tryz.sizeOf220
 v75 := Tryz.zeroValue220
 t76 := underlying221
 a76 := Tryz.isAgg221
 z76 := Tryz.sizeOf221
 v76 := Tryz.zeroValue221
 t85 := underlying291
 a85 := Tryz.isAgg291
 z85 := Tryz.sizeOf291
 v85 := Tryz.zeroValue291
 t127 := underlying249
 a127 := Tryz.isAgg249
 z127 := Tryz.sizeOf249
 v127 := Tryz.zeroValue249
 t143 := underlying307
 a143 := Tryz.isAgg307
 z143 := Tryz.sizeOf307
 v143 := Tryz.zeroValue307
 t145 := underlying309
 a145 := Tryz.isAgg309
 z145 := Tryz.sizeOf309
 v145 := Tryz.zeroValue309
 t167 := underlying286
 a167 := Tryz.isAgg286
 z167 := Tryz.sizeOf286
 v167 := Tryz.zeroValue286
 t168 := underlying288
 a168 := Tryz.isAgg288
 z168 := Tryz.sizeOf288
 v168 := Tryz.zeroValue288
 t171 := underlying300
 a171 := Tryz.isAgg300
 z171 := Tryz.sizeOf300
 v171 := Tryz.zeroValue300
 t173 := underlying302
 a173 := Tryz.isAgg302
 z173 := Tryz.sizeOf302
 v173 := Tryz.zeroValue302
 t175 := underlying262
 a175 := Tryz.isAgg262
 z175 := Tryz.sizeOf262
 v175 := Tryz.zeroValue262
 t210 := underlying298
 a210 := Tryz.isAgg298
 z210 := Tryz.sizeOf298
 v210 := Tryz.zeroValue298
 t212 := underlying311
 a212 := Tryz.isAgg311
 z212 := Tryz.sizeOf311
 v212 := Tryz.zeroValue311
 t213 := underlying312
 a213 := Tryz.isAgg312
 z213 := Tryz.sizeOf312
 t232 := underlying313
 a232 := Tryz.isAgg313
 z232 := Tryz.sizeOf313
 v232 := Tryz.zeroValue313
 t233 := underlying314
 a233 := Tryz.isAgg314
 z233 := Tryz.sizeOf314
 v233 := Tryz.zeroValue314
 g15 := by kernel_rfl
 g16 := by kernel_rfl
 g17 := by kernel_rfl
 g18 := by kernel_rfl
 g19 := by kernel_rfl
 t80 := underlying223
 a80 := Tryz.isAgg223
 z80 := Tryz.sizeOf223
 v80 := Tryz.zeroValue223
 i0 := by kernel_rfl
 i2 := by kernel_rfl
 i3 := by kernel_rfl
 i4 := by kernel_rfl
 i5 := by kernel_rfl
 i9 := by kernel_rfl
 i20 := by kernel_rfl
 i21 := by kernel_rfl
 i37 := by kernel_rfl
 i46 := by kernel_rfl
 i51 := by kernel_rfl
 i53 := by kernel_rfl
 i75 := by kernel_rfl
 i76 := by kernel_rfl
 i80 := by kernel_rfl
 i85 := by kernel_rfl
 i127 := by kernel_rfl
 i143 := by kernel_rfl
 i145 := by kernel_rfl
 i167 := by kernel_rfl
 i168 := by kernel_rfl
 i171 := by kernel_rfl
 i173 := by kernel_rfl
 i175 := by kernel_rfl
 i210 := by kernel_rfl
 i212 := by kernel_rfl
 i232 := by kernel_rfl
 i233 := by kernel_rfl
 m15 := by kernel_rfl
 m16 := by kernel_rfl
 m17 := by kernel_rfl
 m18 := by kernel_rfl
 m19 := by kernel_rfl
 c0 := by kernel_rfl
 c2 := by kernel_rfl
 c3 := by kernel_rfl
 c4 := by kernel_rfl
 c5 := by kernel_rfl
 c9 := by kernel_rfl
 c20 := by kernel_rfl
 c21 := by kernel_rfl
 c37 := by kernel_rfl
 c46 := by kernel_rfl
 c51 := by kernel_rfl
 c53 := by kernel_rfl
 c75 := by kernel_rfl
 c76 := by kernel_rfl
 c80 := by kernel_rfl
 c85 := by kernel_rfl
 c127 := by kernel_rfl
 c143 := by kernel_rfl
 c145 := by kernel_rfl
 c167 := by kernel_rfl
 c168 := by kernel_rfl
 c171 := by kernel_rfl
 c173 := by kernel_rfl
 c175 := by kernel_rfl
 c210 := by kernel_rfl
 c212 := by kernel_rfl
 c213 := by kernel_rfl
 c232 := by kernel_rfl
 c233 := by kernel_rfl }
open Go.RowKit in
theorem Tryz.strconv_Atoi_ok (s : ByteArray) (hmax : s.size ≤ 9223372036854775806) (v : Int) (h : Lib.atoiAll s.data.toList = .ok v) (w : World) :
 Calls prog 215 #[.string s] w fun e w' => e = .returned (.tuple #[.int .i64 v, .nilIface]) ∧ (w' = w ∨ ∃ t, w' = Lib.bytesWorld w 5 t) := Any.strconv_Atoi_ok Tryz.laysC172 s hmax v h w
def Tryz.laysPu14_ren : Go.Shelf.Ren := ⟨fun | 14 => 212 | 16 => 230 | 17 => 231 | 19 => 241 | 20 => 242 | 21 => 243 | 22 => 244 | 23 => 245 | 24 => 246 | 25 => 251 | 27 => 216 | 26 => 252 | 28 => 234 | 29 => 248 | 30 => 253 | 31 => 254 | 32 => 255 | 33 => 256 | 35 => 146 | 34 => 259 | 36 => 260 | 37 => 261 | 38 => 262 | 39 => 263 | 40 => 264 | n => n, fun | 9 => 9 | 3 => 3 | 22 => 207 | 24 => 220 | 25 => 262 | 4 => 4 | 34 => 286 | 5 => 5 | 36 => 170 | 37 => 215 | 0 => 0 | 39 => 288 | 21 => 21 | 44 => 298 | 47 => 249 | 50 => 309 | 48 => 307 | 2 => 2 | 52 => 300 | 55 => 302 | 59 => 311 | 60 => 205 | 20 => 20 | 61 => 312 | 65 => 313 | 66 => 314 | 67 => 223 | n => n, fun | 0 => 4 | 1 => 5 | 2 => 6 | 3 => 7 | 4 => 8 | n => n⟩
theorem Tryz.laysPu14 : Go.Proofs.LaysPu.n14 prog Tryz.laysPu14_ren := {
 mixed := by kernel_rfl
 f14 := func212.trans (congrArg some (by kernel_rfl))
 f16 := func230.trans (congrArg some (by kernel_rfl))
 f17 := func231.trans (congrArg some (by kernel_rfl))
 f19 := func241.trans (congrArg some (by kernel_rfl))
 f20 := func242.trans (congrArg some (by kernel_rfl))
 f21 := func243.trans (congrArg some (by kernel_rfl))
 f22 := func244.trans (congrArg some (by kernel_rfl))
 f23 := func245.trans (congrArg some (by kernel_rfl))
 f24 := func246.trans (congrArg some (by kernel_rfl))
 f25 := func251.trans (congrArg some (by kernel_rfl))
 f26 := func252.trans (congrArg some (by kernel_rfl))
 f27 := func216.trans (congrArg some (by kernel_rfl))
 f28 := func234.trans (congrArg some (by kernel_rfl))
 f29 := func248.trans (congrArg some (by kernel_rfl))
 f30 := func253.trans (congrArg some (by kernel_rfl))
 f31 := func254.trans (congrArg some (by kernel_rfl))
 f32 := func255.trans (congrArg some (by kernel_rfl))
 f33 := func256.trans (congrArg some (by kernel_rfl))
 f34 := func259.trans (congrArg some (by kernel_rfl))
 f35 := func146.trans (congrArg some (by kernel_rfl))
 f36 := func260.trans (congrArg some (by kernel_rfl))
 f37 := func261.trans (congrArg some (by kernel_rfl))
 f38 := func262.trans (congrArg some (by kernel_rfl))
 f39 := func263.trans (congrArg some (by kernel_rfl))
 f40 := func264.trans (congrArg some (by kernel_rfl))
 t0 := underlying0
 a0 := Tryz.isAgg0
 z0 := Tryz.sizeOf0
 v0 := Tryz.zeroValue0
 i0 := by kernel_rfl
 t2 := underlying2
 a2 := Tryz.isAgg2
 z2 := Tryz.sizeOf2
 v2 := Tryz.zeroValue2
 i2 := by kernel_rfl
 t3 := underlying3
 a3 := Tryz.isAgg3
 z3 := Tryz.sizeOf3
 v3 := Tryz.zeroValue3
 i3 := by kernel_rfl
 t4 := underlying4
 a4 := Tryz.isAgg4
 z4 := Tryz.sizeOf4
 v4 := Tryz.zeroValue4
 i4 := by kernel_rfl
 t5 := underlying5
 a5 := Tryz.isAgg5
 z5 := Tryz.sizeOf5
 v5 := Tryz.zeroValue5
 i5 := by kernel_rfl
 t9 := underlying9
 a9 := Tryz.isAgg9
 z9 := Tryz.sizeOf9
 v9 := Tryz.zeroValue9
 i9 := by kernel_rfl
 t20 := underlying20
 a20 := Tryz.isAgg20
 z20 := Tryz.sizeOf20
 v20 := Tryz.zeroValue20
 i20 := by kernel_rfl
 t21 := underlying21
 a21 := Tryz.isAgg21
 z21 := Tryz.sizeOf21
 v21 := Tryz.zeroValue21
 i21 := by kernel_rfl
 t22 := underlying207
 a22 := Tryz.isAgg207
 z22 := Tryz.sizeOf207
 v22 := Tryz.zeroValue207
 i22 := by kernel_rfl
 t24 := underlying220
 a24 := Tryz.isAgg220
 z24 := Tryz.sizeOf220
 v24 := Tryz.zeroValue220
 i24 := by kernel_rfl
 t25 := underlying262
 a25 := Tryz.isAgg262
 z25 := Tryz.sizeOf262
 v25 := Tryz.zeroValue262
 i25 := by kernel_rfl
 t34 := underlying286
 a34 := Tryz.isAgg286
 z34 := Tryz.sizeOf286
 v34 := Tryz.zeroValue286
 i34 := by kernel_rfl
 c34 := by kernel_rfl
 t36 := underlying170
 a36 := Tryz.isAgg170
 z36 := Tryz.sizeOf170
 v36 := Tryz.zeroValue170
 i36 := by kernel_rfl
 t37 := underlying215
 a37 := Tryz.isAgg215
 z37 := Tryz.sizeOf215
 v37 := Tryz.zeroValue215
 i37 := by kernel_rfl
 t39 := underlying288
 a39 := Tryz.isAgg288
 z39 := Tryz.sizeOf288
 v39 := Tryz.zeroValue288
 i39 := by kernel_rfl
 t44 := underlying298
 a44 := Tryz.isAgg298
 z44 := Tryz.sizeOf298
 v44 := Tryz.zeroValue298
 i44 := by kernel_rfl
 t47 := underlying249
 a47 := Tryz.isAgg249
 z47 := Tryz.sizeOf249
 v47 := Tryz.zeroValue249
 i47 := by kernel_rfl
 t48 := underlying307
 a48 := Tryz.isAgg307
 z48 := Tryz.sizeOf307
 v48 := Tryz.zeroValue307
 i48 := by kernel_rfl
 t50 := underlying309
 a50 := Tryz.isAgg309
 z50 := Tryz.sizeOf309
 v50 := Tryz.zeroValue309
 i50 := by kernel_rfl
 t52 := underlying300
 a52 := Tryz.isAgg300
 z52 := Tryz.sizeOf300
 v52 := Tryz.zeroValue300
 i52 := by kernel_rfl
 t55 := underlying302
 a55 := Tryz.isAgg302
 z55 := Tryz.sizeOf302
 v55 := Tryz.zeroValue302
 i55 := by kernel_rfl
 t59 := underlying311
 a59 := Tryz.isAgg311
 z59 := Tryz.sizeOf311
 v59 := Tryz.zeroValue311
 i59 := by kernel_rfl
 t60 := underlying205
 a60 := Tryz.isAgg205
 z60 := Tryz.sizeOf205
 v60 := Tryz.zeroValue205
 i60 := by kernel_rfl
 t61 := underlying312
 a61 := Tryz.isAgg312
 z61 := Tryz.sizeOf312
 t65 := underlying313
 a65 := Tryz.isAgg313
 z65 := Tryz.sizeOf313
 v65 := Tryz.zeroValue313
 i65 := by kernel_rfl
 t66 := underlying314
 a66 := Tryz.isAgg314
 z66 := Tryz.sizeOf314
 v66 := Tryz.zeroValue314
 i66 := by kernel_rfl
 t67 := underlying223
 a67 := Tryz.isAgg223
 z67 := Tryz.sizeOf223
 v67 := Tryz.zeroValue223
 i67 := by kernel_rfl
 g0 := by kernel_rfl
 m0 := by kernel_rfl
 g1 := by kernel_rfl
 m1 := by kernel_rfl
 g2 := by kernel_rfl
 m2 := by kernel_rfl
 g3 := by kernel_rfl
 m3 := by kernel_rfl
 g4 := by kernel_rfl
 m4 := by kernel_rfl }
def Tryz.lays145_ren : Go.Shelf.Ren := ⟨fun | 145 => 195 | 220 => 223 | 219 => 186 | 217 => 198 | 225 => 207 | 224 => 208 | 267 => 209 | 266 => 224 | 314 => 226 | n => n, fun | 9 => 9 | 4 => 4 | 59 => 250 | 3 => 3 | 5 => 5 | 46 => 170 | 146 => 277 | 51 => 205 | n => n, fun | 1 => 0 | n => n⟩
theorem Tryz.lays145 : Go.Proofs.Lays.n145 prog Tryz.lays145_ren := {
 mixed := by kernel_rfl
 f145 := func195.trans (congrArg some (by kernel_rfl))
 f217 := func198.trans (congrArg some (by kernel_rfl))
 f219 := func186.trans (congrArg some (by kernel_rfl))
 f220 := func223.trans (congrArg some (by kernel_rfl))
 f224 := func208.trans (congrArg some (by kernel_rfl))
 f225 := func207.trans (congrArg some (by kernel_rfl))
 f266 := func224.trans (congrArg some (by kernel_rfl))
 f267 := func209.trans (congrArg some (by kernel_rfl))
 f314 := func226.trans (congrArg some (by kernel_rfl))
 t3 := underlying3
 a3 := Tryz.isAgg3
 z3 := Tryz.sizeOf3
 v3 := Tryz.zeroValue3
 t4 := underlying4
 a4 := Tryz.isAgg4
 z4 := Tryz.sizeOf4
 v4 := Tryz.zeroValue4
 t5 := underlying5
 a5 := Tryz.isAgg5
 z5 := Tryz.sizeOf5
 v5 := Tryz.zeroValue5
 t9 := underlying9
 a9 := Tryz.isAgg9
 z9 := Tryz.sizeOf9
 v9 := Tryz.zeroValue9
 t46 := underlying170
 a46 := Tryz.isAgg170
 z46 := Tryz.sizeOf170
 v46 := Tryz.zeroValue170
 t51 := underlying205
 a51 := Tryz.isAgg205
 z51 := Tryz.sizeOf205
 v51 := Tryz.zeroValue205
 t59 := underlying250
 a59 := Tryz.isAgg250
 z59 := Tryz.sizeOf250
 v59 := Tryz.zeroValue250
 t146 := underlying277
 a146 := Tryz.isAgg277
 z146 := Tryz.sizeOf277
 v146 := Tryz.zeroValue277
 g1 := by kernel_rfl }
open Go.RowKit Go.Lib in
theorem Tryz.strings_Cut (s sep : ByteArray) (m : Int) (w : World) (hs : s.size < 4294967281) (hm : w.cell? ⟨0, 0, none⟩ = some (.int .i64 m)) :
 Calls prog 195 #[.string s, .string sep] w fun e w' => e = .returned (.tuple #[.string ⟨(Lib.cut s.data.toList sep.data.toList).1.toArray⟩, .string ⟨(Lib.cut s.data.toList sep.data.toList).2.1.toArray⟩, .bool (Lib.cut s.data.toList sep.data.toList).2.2]) ∧ ∃ n, w' = w.drewN n := Any.strings_Cut Tryz.lays145 s sep m w hs hm
def Tryz.lays99_ren : Go.Shelf.Ren := ⟨fun | 99 => 88 | 206 => 120 | n => n, fun | 9 => 9 | 4 => 4 | 3 => 3 | n => n, fun | n => n⟩
theorem Tryz.lays99 : Go.Proofs.Lays.n99 prog Tryz.lays99_ren := {
 mixed := by kernel_rfl
 f99 := func88.trans (congrArg some (by kernel_rfl))
 f206 := func120.trans (congrArg some (by kernel_rfl))
 t3 := underlying3
 a3 := Tryz.isAgg3
 z3 := Tryz.sizeOf3
 v3 := Tryz.zeroValue3
 t4 := underlying4
 a4 := Tryz.isAgg4
 z4 := Tryz.sizeOf4
 v4 := Tryz.zeroValue4
 t9 := underlying9
 a9 := Tryz.isAgg9
 z9 := Tryz.sizeOf9
 v9 := Tryz.zeroValue9 }
open Go.RowKit Go.Lib in
theorem Tryz.strings_HasPrefix (s p : ByteArray) (w : World) :
 Calls prog 88 #[.string s, .string p] w fun e w' => e = .returned (.bool (Lib.hasPrefix s.data.toList p.data.toList)) ∧ w' = w := Any.strings_HasPrefix Tryz.lays99 s p w
def Tryz.lays100_ren : Go.Shelf.Ren := ⟨fun | 100 => 82 | 207 => 117 | n => n, fun | 9 => 9 | 4 => 4 | 3 => 3 | n => n, fun | n => n⟩
theorem Tryz.lays100 : Go.Proofs.Lays.n100 prog Tryz.lays100_ren := {
 mixed := by kernel_rfl
 f100 := func82.trans (congrArg some (by kernel_rfl))
 f207 := func117.trans (congrArg some (by kernel_rfl))
 t3 := underlying3
 a3 := Tryz.isAgg3
 z3 := Tryz.sizeOf3
 v3 := Tryz.zeroValue3
 t4 := underlying4
 a4 := Tryz.isAgg4
 z4 := Tryz.sizeOf4
 v4 := Tryz.zeroValue4
 t9 := underlying9
 a9 := Tryz.isAgg9
 z9 := Tryz.sizeOf9
 v9 := Tryz.zeroValue9 }
open Go.RowKit Go.Lib in
theorem Tryz.strings_HasSuffix (s p : ByteArray) (w : World) (hs : s.size ≤ 9223372036854775807) :
 Calls prog 82 #[.string s, .string p] w fun e w' => e = .returned (.bool (Lib.hasSuffix s.data.toList p.data.toList)) ∧ w' = w := Any.strings_HasSuffix Tryz.lays100 s p w hs
def Tryz.lays146_ren : Go.Shelf.Ren := ⟨fun | 146 => 80 | 221 => 112 | 268 => 150 | 138 => 151 | 143 => 152 | 195 => 183 | 197 => 184 | 218 => 185 | 219 => 186 | 260 => 206 | 217 => 198 | 225 => 207 | 224 => 208 | 267 => 209 | 266 => 224 | 314 => 226 | n => n, fun | 9 => 9 | 31 => 33 | 3 => 3 | 4 => 4 | 0 => 0 | 105 => 211 | 21 => 21 | 5 => 5 | 46 => 170 | 119 => 273 | 139 => 276 | 138 => 275 | 146 => 277 | 51 => 205 | n => n, fun | 1 => 0 | 3 => 1 | 4 => 2 | n => n⟩
theorem Tryz.lays146 : Go.Proofs.Lays.n146 prog Tryz.lays146_ren := {
 mixed := by kernel_rfl
 f138 := func151.trans (congrArg some (by kernel_rfl))
 f143 := func152.trans (congrArg some (by kernel_rfl))
 f146 := func80.trans (congrArg some (by kernel_rfl))
 f195 := func183.trans (congrArg some (by kernel_rfl))
 f197 := func184.trans (congrArg some (by kernel_rfl))
 f217 := func198.trans (congrArg some (by kernel_rfl))
 f218 := func185.trans (congrArg some (by kernel_rfl))
 f219 := func186.trans (congrArg some (by kernel_rfl))
 f221 := func112.trans (congrArg some (by kernel_rfl))
 f224 := func208.trans (congrArg some (by kernel_rfl))
 f225 := func207.trans (congrArg some (by kernel_rfl))
 f260 := func206.trans (congrArg some (by kernel_rfl))
 f266 := func224.trans (congrArg some (by kernel_rfl))
 f267 := func209.trans (congrArg some (by kernel_rfl))
 f268 := func150.trans (congrArg some (by kernel_rfl))
 f314 := func226.trans (congrArg some (by kernel_rfl))
 t0 := underlying0
 a0 := Tryz.isAgg0
 z0 := Tryz.sizeOf0
 v0 := Tryz.zeroValue0
 t3 := underlying3
 a3 := Tryz.isAgg3
 z3 := Tryz.sizeOf3
 v3 := Tryz.zeroValue3
 t4 := underlying4
 a4 := Tryz.isAgg4
 z4 := Tryz.sizeOf4
 v4 := Tryz.zeroValue4
 t5 := underlying5
 a5 := Tryz.isAgg5
 z5 := Tryz.sizeOf5
 v5 := Tryz.zeroValue5
 t9 := underlying9
 a9 := Tryz.isAgg9
 z9 := Tryz.sizeOf9
 v9 := Tryz.zeroValue9
 t21 := underlying21
 a21 := Tryz.isAgg21
 z21 := Tryz.sizeOf21
 v21 := Tryz.zeroValue21
 t31 := underlying33
 a31 := Tryz.isAgg33
 z31 := Tryz.sizeOf33
 v31 := Tryz.zeroValue33
 t46 := underlying170
 a46 := Tryz.isAgg170
 z46 := Tryz.sizeOf170
 v46 := Tryz.zeroValue170
 t51 := underlying205
 a51 := Tryz.isAgg205
 z51 := Tryz.sizeOf205
 v51 := Tryz.zeroValue205
 t105 := underlying211
 a105 := Tryz.isAgg211
 z105 := Tryz.sizeOf211
 v105 := Tryz.zeroValue211
 t119 := underlying273
 a119 := Tryz.isAgg273
 z119 := Tryz.sizeOf273
 t138 := underlying275
 a138 := Tryz.isAgg275
 z138 := Tryz.sizeOf275
 v138 := Tryz.zeroValue275
 t139 := underlying276
 a139 := Tryz.isAgg276
 z139 := Tryz.sizeOf276
 v139 := Tryz.zeroValue276
 t146 := underlying277
 a146 := Tryz.isAgg277
 z146 := Tryz.sizeOf277
 v146 := Tryz.zeroValue277
 g1 := by kernel_rfl
 g3 := by kernel_rfl
 g4 := by kernel_rfl }
open Go.RowKit Go.Lib in
theorem Tryz.strings_Split (s sep : ByteArray) (m : Int) (w : World) (hs : s.size < 4294967281) (hm : w.cell? ⟨0, 0, none⟩ = some (.int .i64 m)) (h1 : 1 ≤ sep.size) :
 Calls prog 80 #[.string s, .string sep] w fun e w' =>
  e = .returned (.slice (some ⟨w.heap.size, 0, none⟩) (Lib.countB s sep + 1) (Lib.countB s sep + 1)) ∧ w' = w.alloc (.cells ((Lib.splitB sep 0 (Lib.countB s sep) s).map Value.string).toArray 9) := Any.strings_Split Tryz.lays146 (by kernel_rfl) s sep m w hs hm h1
def Tryz.lays155_ren : Go.Shelf.Ren := ⟨fun | 155 => 213 | 154 => 232 | 138 => 151 | 165 => 157 | 143 => 152 | 166 => 158 | 197 => 184 | 169 => 159 | 195 => 183 | 218 => 185 | 240 => 193 | 241 => 194 | 219 => 186 | 260 => 206 | 276 => 221 | 277 => 222 | 217 => 198 | 225 => 207 | 224 => 208 | 267 => 209 | 266 => 224 | 314 => 226 | n => n, fun | 9 => 9 | 3 => 3 | 4 => 4 | 72 => 217 | 0 => 0 | 76 => 221 | 105 => 211 | 21 => 21 | 5 => 5 | 70 => 214 | 20 => 20 | 37 => 215 | 75 => 220 | 127 => 249 | 164 => 269 | 46 => 170 | 119 => 273 | 139 => 276 | 138 => 275 | 146 => 277 | 51 => 205 | 80 => 223 | n => n, fun | 1 => 0 | 3 => 1 | 4 => 2 | n => n⟩
theorem Tryz.lays155 : Go.Proofs.Lays.n155 prog Tryz.lays155_ren := {
 mixed := by kernel_rfl
 f138 := func151.trans (congrArg some (by kernel_rfl))
 f143 := func152.trans (congrArg some (by kernel_rfl))
 f154 := func232.trans (congrArg some (by kernel_rfl))
 f155 := func213.trans (congrArg some (by kernel_rfl))
 f165 := func157.trans (congrArg some (by kernel_rfl))
 f166 := func158.trans (congrArg some (by kernel_rfl))
 f169 := func159.trans (congrArg some (by kernel_rfl))
 f195 := func183.trans (congrArg some (by kernel_rfl))
 f197 := func184.trans (congrArg some (by kernel_rfl))
 f217 := func198.trans (congrArg some (by kernel_rfl))
 f218 := func185.trans (congrArg some (by kernel_rfl))
 f219 := func186.trans (congrArg some (by kernel_rfl))
 f224 := func208.trans (congrArg some (by kernel_rfl))
 f225 := func207.trans (congrArg some (by kernel_rfl))
 f240 := func193.trans (congrArg some (by kernel_rfl))
 f241 := func194.trans (congrArg some (by kernel_rfl))
 f260 := func206.trans (congrArg some (by kernel_rfl))
 f266 := func224.trans (congrArg some (by kernel_rfl))
 f267 := func209.trans (congrArg some (by kernel_rfl))
 f276 := func221.trans (congrArg some (by kernel_rfl))
 f277 := func222.trans (congrArg some (by kernel_rfl))
 f314 := func226.trans (congrArg some (by kernel_rfl))
 t0 := underlying0
 a0 := Tryz.isAgg0
 z0 := Tryz.sizeOf0
 v0 := Tryz.zeroValue0
 t3 := underlying3
 a3 := Tryz.isAgg3
 z3 := Tryz.sizeOf3
 v3 := Tryz.zeroValue3
 t4 := underlying4
 a4 := Tryz.isAgg4
 z4 := Tryz.sizeOf4
 v4 := Tryz.zeroValue4
 t5 := underlying5
 a5 := Tryz.isAgg5
 z5 := Tryz.sizeOf5
 v5 := Tryz.zeroValue5
 t9 := underlying9
 a9 := Tryz.isAgg9
 z9 := Tryz.sizeOf9
 v9 := Tryz.zeroValue9
 t20 := underlying20
 a20 := Tryz.isAgg20
 z20 := Tryz.sizeOf20
 v20 := Tryz.zeroValue20
 t21 := underlying21
 a21 := Tryz.isAgg21
 z21 := Tryz.sizeOf21
 v21 := Tryz.zeroValue21
 t37 := underlying215
 a37 := Tryz.isAgg215
 z37 := Tryz.sizeOf215
 v37 := Tryz.zeroValue215
 t46 := underlying170
 a46 := Tryz.isAgg170
 z46 := Tryz.sizeOf170
 v46 := Tryz.zeroValue170
 t51 := underlying205
 a51 := Tryz.isAgg205
 z51 := Tryz.sizeOf205
 v51 := Tryz.zeroValue205
 t70 := underlying214
 a70 := Tryz.isAgg214
 z70 := Tryz.sizeOf214
 v70 := Tryz.zeroValue214
 t72 := underlying217
 a72 := Tryz.isAgg217
 z72 := Tryz.sizeOf217
 v72 := Tryz.zeroValue217
 t75 := underlying220
 a75 := Tryz.isAgg220
 z75 := Tryz.sizeOf220
 v75 := Tryz.zeroValue220
 t76 := underlying221
 a76 := Tryz.isAgg221
 z76 := Tryz.sizeOf221
 v76 := Tryz.zeroValue221
 t105 := underlying211
 a105 := Tryz.isAgg211
 z105 := Tryz.sizeOf211
 v105 := Tryz.zeroValue211
 t119 := underlying273
 a119 := Tryz.isAgg273
 z119 := Tryz.sizeOf273
 t127 := underlying249
 a127 := Tryz.isAgg249
 z127 := Tryz.sizeOf249
 v127 := Tryz.zeroValue249
 t138 := underlying275
 a138 := Tryz.isAgg275
 z138 := Tryz.sizeOf275
 v138 := Tryz.zeroValue275
 t139 := underlying276
 a139 := Tryz.isAgg276
 z139 := Tryz.sizeOf276
 v139 := Tryz.zeroValue276
 t146 := underlying277
 a146 := Tryz.isAgg277
 z146 := Tryz.sizeOf277
 v146 := Tryz.zeroValue277
 t164 := underlying269
 a164 := Tryz.isAgg269
 z164 := Tryz.sizeOf269
 v164 := Tryz.zeroValue269
 g1 := by kernel_rfl
 g3 := by kernel_rfl
 g4 := by kernel_rfl }
theorem Tryz.Builder_Extra_155 : Builder.Extra prog Tryz.lays155_ren := {
 sizeBuilder := by kernel_rfl
 liesBuilder := by kernel_rfl
 t5 := underlying5
 a5 := Tryz.isAgg5
 z5 := Tryz.sizeOf5
 v5 := Tryz.zeroValue5
 infoByte := by kernel_rfl
 cellsByte := by kernel_rfl
 sizeByte := by kernel_rfl
 neB5 := by decide }
open Go.RowKit Go.Lib in
theorem Tryz.strings_ReplaceAll (s old new : ByteArray) (m : Int) (w : World) (hs : s.size < 4294967281) (hm : w.cell? ⟨0, 0, none⟩ = some (.int .i64 m)) (h1 : 1 ≤ old.size) (hlen : s.size + Lib.countB s old * new.size ≤ 140737488355328) :
 Calls prog 213 #[.string s, .string old, .string new] w fun e w' =>
  e = .returned (.string ⟨(Lib.replaceAll s.data.toList old.data.toList new.data.toList).toArray⟩) ∧ Below w.heap.size w w' := Any.strings_ReplaceAll Tryz.lays155 Tryz.Builder_Extra_155 s old new m w hs hm h1 hlen
def Tryz.lays105_ren : Go.Shelf.Ren := ⟨fun | 105 => 238 | 212 => 249 | 99 => 88 | 165 => 157 | 166 => 158 | 170 => 250 | 169 => 159 | 263 => 257 | 264 => 258 | 206 => 120 | 240 => 193 | 241 => 194 | 276 => 221 | 277 => 222 | n => n, fun | 9 => 9 | 3 => 3 | 4 => 4 | 20 => 20 | 0 => 0 | 46 => 170 | 109 => 294 | 5 => 5 | 72 => 217 | 76 => 221 | 51 => 205 | 146 => 277 | 53 => 207 | 148 => 305 | 70 => 214 | 37 => 215 | 75 => 220 | 127 => 249 | 164 => 269 | 80 => 223 | n => n, fun | n => n⟩
theorem Tryz.lays105 : Go.Proofs.Lays.n105 prog Tryz.lays105_ren := {
 mixed := by kernel_rfl
 f99 := func88.trans (congrArg some (by kernel_rfl))
 f105 := func238.trans (congrArg some (by kernel_rfl))
 f165 := func157.trans (congrArg some (by kernel_rfl))
 f166 := func158.trans (congrArg some (by kernel_rfl))
 f169 := func159.trans (congrArg some (by kernel_rfl))
 f170 := func250.trans (congrArg some (by kernel_rfl))
 f206 := func120.trans (congrArg some (by kernel_rfl))
 f212 := func249.trans (congrArg some (by kernel_rfl))
 f240 := func193.trans (congrArg some (by kernel_rfl))
 f241 := func194.trans (congrArg some (by kernel_rfl))
 f263 := func257.trans (congrArg some (by kernel_rfl))
 f264 := func258.trans (congrArg some (by kernel_rfl))
 f276 := func221.trans (congrArg some (by kernel_rfl))
 f277 := func222.trans (congrArg some (by kernel_rfl))
 t0 := underlying0
 a0 := Tryz.isAgg0
 z0 := Tryz.sizeOf0
 v0 := Tryz.zeroValue0
 t3 := underlying3
 a3 := Tryz.isAgg3
 z3 := Tryz.sizeOf3
 v3 := Tryz.zeroValue3
 t4 := underlying4
 a4 := Tryz.isAgg4
 z4 := Tryz.sizeOf4
 v4 := Tryz.zeroValue4
 t5 := underlying5
 a5 := Tryz.isAgg5
 z5 := Tryz.sizeOf5
 v5 := Tryz.zeroValue5
 t9 := underlying9
 a9 := Tryz.isAgg9
 z9 := Tryz.sizeOf9
 v9 := Tryz.zeroValue9
 t20 := underlying20
 a20 := Tryz.isAgg20
 z20 := Tryz.sizeOf20
 v20 := Tryz.zeroValue20
 t37 := underlying215
 a37 := Tryz.isAgg215
 z37 := Tryz.sizeOf215
 v37 := Tryz.zeroValue215
 t46 := underlying170
 a46 := Tryz.isAgg170
 z46 := Tryz.sizeOf170
 v46 := Tryz.zeroValue170
 t51 := underlying205
 a51 := Tryz.isAgg205
 z51 := Tryz.sizeOf205
 v51 := Tryz.zeroValue205
 t53 := underlying207
 a53 := Tryz.isAgg207
 z53 := Tryz.sizeOf207
 v53 := Tryz.zeroValue207
 t70 := underlying214
 a70 := Tryz.isAgg214
 z70 := Tryz.sizeOf214
 v70 := Tryz.zeroValue214
 t72 := underlying217
 a72 := Tryz.isAgg217
 z72 := Tryz.sizeOf217
 v72 := Tryz.zeroValue217
 t75 := underlying220
 a75 := Tryz.isAgg220
 z75 := Tryz.sizeOf220
 v75 := Tryz.zeroValue220
 t76 := underlying221
 a76 := Tryz.isAgg221
 z76 := Tryz.sizeOf221
 v76 := Tryz.zeroValue221
 t109 := underlying294
 a109 := Tryz.isAgg294
 z109 := Tryz.sizeOf294
 v109 := Tryz.zeroValue294
 t127 := underlying249
 a127 := Tryz.isAgg249
 z127 := Tryz.sizeOf249
 v127 := Tryz.zeroValue249
 t146 := underlying277
 a146 := Tryz.isAgg277
 z146 := Tryz.sizeOf277
 v146 := Tryz.zeroValue277
 t148 := underlying305
 a148 := Tryz.isAgg305
 z148 := Tryz.sizeOf305
 v148 := Tryz.zeroValue305
 t164 := underlying269
 a164 := Tryz.isAgg269
 z164 := Tryz.sizeOf269
 v164 := Tryz.zeroValue269 }
theorem Tryz.Builder_Extra_105 : Builder.Extra prog Tryz.lays105_ren := {
 sizeBuilder := by kernel_rfl
 liesBuilder := by kernel_rfl
 t5 := underlying5
 a5 := Tryz.isAgg5
 z5 := Tryz.sizeOf5
 v5 := Tryz.zeroValue5
 infoByte := by kernel_rfl
 cellsByte := by kernel_rfl
 sizeByte := by kernel_rfl
 neB5 := by decide }
open Go.RowKit Go.Lib in
theorem Tryz.strings_Repeat (s : ByteArray) (c : Nat) (w : World) (hc : c ≤ 9223372036854775807) (hlen : s.size * c ≤ 140737488355328) :
 Calls prog 238 #[.string s, .int .i64 c] w fun e w' => e = .returned (.string ⟨(Lib.repeatL s.data.toList c).toArray⟩) ∧ Below w.heap.size w w' := Any.strings_Repeat Tryz.lays105 Tryz.Builder_Extra_105 s c w hc hlen
def Tryz.laysNm217_ren : Go.Shelf.Ren := ⟨fun | 17 => 64 | n => n, fun | 24 => 33 | 9 => 9 | 3 => 3 | 4 => 4 | 0 => 0 | n => n, fun | n => n⟩
theorem Tryz.laysNm217 : Go.Proofs.Lays2.n17 prog Tryz.laysNm217_ren := {
 mixed := by kernel_rfl
 f17 := func64.trans (congrArg some (by kernel_rfl))
 t0 := underlying0
 a0 := Tryz.isAgg0
 z0 := Tryz.sizeOf0
 v0 := Tryz.zeroValue0
 t3 := underlying3
 a3 := Tryz.isAgg3
 z3 := Tryz.sizeOf3
 v3 := Tryz.zeroValue3
 t4 := underlying4
 a4 := Tryz.isAgg4
 z4 := Tryz.sizeOf4
 v4 := Tryz.zeroValue4
 t9 := underlying9
 a9 := Tryz.isAgg9
 z9 := Tryz.sizeOf9
 v9 := Tryz.zeroValue9
 t24 := underlying33
 a24 := Tryz.isAgg33
 z24 := Tryz.sizeOf33
 v24 := Tryz.zeroValue33 }
open Go.RowKit Go.Lib Go.Sort in
theorem Tryz.slices_Reverse_string_empty (a : Option Addr) (cap : Nat) (w : World) :
 Calls prog 64 #[.slice a 0 cap] w fun e w' => e = .returned (.tuple #[]) ∧ w' = w := Any.slices_Reverse_string_empty Tryz.laysNm217 a cap w
def Tryz.laysNm216_ren : Go.Shelf.Ren := ⟨fun | 16 => 92 | n => n, fun | 24 => 33 | 9 => 9 | 4 => 4 | n => n, fun | n => n⟩
theorem Tryz.laysNm216 : Go.Proofs.Lays2.n16 prog Tryz.laysNm216_ren := {
 mixed := by kernel_rfl
 f16 := func92.trans (congrArg some (by kernel_rfl))
 t4 := underlying4
 a4 := Tryz.isAgg4
 z4 := Tryz.sizeOf4
 v4 := Tryz.zeroValue4
 t9 := underlying9
 a9 := Tryz.isAgg9
 z9 := Tryz.sizeOf9
 v9 := Tryz.zeroValue9
 t24 := underlying33
 a24 := Tryz.isAgg33
 z24 := Tryz.sizeOf33
 v24 := Tryz.zeroValue33
 i9 := by kernel_rfl }
open Go.RowKit Go.Lib in
theorem Tryz.slices_Clone_string (b off n c : Nat) (zs : List ByteArray) (w : World) (hz : n ≤ zs.length) (hbig : n * 16 ≤ 140737488355328) (hc : ∀ j, j < zs.length → w.cell? ⟨b, off + j, none⟩ = some (.string (zs.getD j ByteArray.empty))) :
 Calls prog 92 #[.slice (some ⟨b, off, none⟩) n c] w fun e w' => ∃ v', e = .returned v' ∧ w'.ownsRow w.heap.size 9 1 v' n ((zs.take n).map (Value.string)) ∧ v' ≠ .slice none 0 0 ∧ Below w.heap.size w w' := Any.slices_Clone_string Tryz.laysNm216 b off n c zs w hz hbig hc
end Go.Proofs
