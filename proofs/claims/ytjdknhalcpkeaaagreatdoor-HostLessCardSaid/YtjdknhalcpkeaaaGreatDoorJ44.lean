/- Plain: what the tables hold: floods go both ways; how many entries there are; a tree less one route, or one policy. -/
import Derived.Test.YtjdknhalcpkeaaaGreatDoorJ30
import Derived.Test.YtjdknhalcpkeaaaGreatDoorJ24
namespace Hst
open Go Go.Lib Rte Sch Tre
section
variable {S : List (List ByteArray)}
theorem Fine.hostIp (h : Fine S) {g : ByteArray} (hg : g ∈ kw S [wHosts]) : ∃ x, kw S [wHosts, g, wIp] = [x] ∧ addrU S g = x := by
 have hP : [wHosts, g] ∈ S := by simpa using mem_kw.1 hg
 obtain ⟨x, hx, -⟩ := h.single (c := wIp) hP need_ip (by decide +kernel)
 exact ⟨x, hx, by unfold addrU; exact one_of hx⟩
theorem kind_floods {h : ByteArray} {e : Ent} (he : e ∈ floodsU S h) : e.host = h ∧ e.kind = 1 := by
 obtain ⟨v, g, -, -, -, -, rfl⟩ := mem_floods.1 he; exact ⟨rfl, rfl⟩
theorem mem_bind {h i : ByteArray} {e : Ent} (he : e ∈ bindU S h i) : inU S h (vniU S i) = true ∧ (e = ⟨h, 2, spB (vniU S i) i, macU S i⟩ ∨ e = ⟨h, 3, spB (vniU S i) (macU S i), addrU S (ownU S i)⟩) := by
 unfold bindU at he
 by_cases h1 : inU S h (vniU S i) = true
 · rw [if_pos h1] at he
   refine ⟨h1, ?_⟩
   rcases List.mem_cons.1 he with he | he
   · exact .inl he
   · split at he
     · simp at he
     · exact .inr (by simpa using he)
 · rw [if_neg h1] at he; simp at he
theorem kind_bind {h : ByteArray} {e : Ent} (he : e ∈ bindingsU S h) : e.host = h ∧ (e.kind = 2 ∨ e.kind = 3) := by
 obtain ⟨i, -, hi⟩ := List.mem_flatMap.1 he
 rcases (mem_bind hi).2 with rfl | rfl
 · exact ⟨rfl, .inl rfl⟩
 · exact ⟨rfl, .inr rfl⟩
theorem kind_routes {h : ByteArray} {e : Ent} (he : e ∈ routesU S h) : e.host = h ∧ e.kind = 4 := by
 obtain ⟨p, -, rfl⟩ := List.mem_map.1 he; exact ⟨rfl, rfl⟩
theorem kind_pols {h : ByteArray} {e : Ent} (he : e ∈ polsU S h) : e.host = h ∧ e.kind = 5 := by
 obtain ⟨p, -, rfl⟩ := List.mem_map.1 he; exact ⟨rfl, rfl⟩
theorem mem_host {h : ByteArray} {e : Ent} : e ∈ hostU S h ↔ ((e ∈ floodsU S h ∨ e ∈ bindingsU S h) ∨ e ∈ routesU S h) ∨ e ∈ polsU S h := by
 unfold hostU
 rw [List.mem_append, List.mem_append, List.mem_append]
theorem host_host {h : ByteArray} {e : Ent} (he : e ∈ hostU S h) : e.host = h := by
 rcases mem_host.1 he with ((h1 | h1) | h1) | h1
 · exact (kind_floods h1).1
 · exact (kind_bind h1).1
 · exact (kind_routes h1).1
 · exact (kind_pols h1).1
theorem mem_all {e : Ent} : e ∈ allU S ↔ e.host ∈ kw S [wHosts] ∧ e ∈ hostU S e.host := by
 unfold allU
 rw [List.mem_flatMap]
 constructor
 · rintro ⟨h, hh, he⟩
   have := host_host he
   subst this
   exact ⟨hh, he⟩
 · rintro ⟨hh, he⟩; exact ⟨_, hh, he⟩
theorem both_ways {x : Ent} (hx : x ∈ allU S) (h1 : x.kind = 1) : ∃ y ∈ allU S, y.kind = 1 ∧ y.key = x.key ∧ y.val = addrU S x.host ∧ x.val = addrU S y.host := by
 obtain ⟨hh, he⟩ := mem_all.1 hx
 have hf : x ∈ floodsU S x.host := by
  rcases mem_host.1 he with ((h2 | h2) | h2) | h2
  · exact h2
  · have := (kind_bind h2).2; omega
  · have := (kind_routes h2).2; omega
  · have := (kind_pols h2).2; omega
 obtain ⟨v, g, hv, hg, hne, hin, hx⟩ := mem_floods.1 hf
 refine ⟨⟨g, 1, v, addrU S x.host⟩, mem_all.2 ⟨hg, mem_host.2 (.inl (.inl (.inl (mem_floods.2 ⟨v, x.host, memB_iff.1 hin, hh, fun e => hne e.symm, memB_iff.2 hv, rfl⟩))))⟩, rfl, ?_, rfl, ?_⟩
 · rw [hx]
 · rw [hx]
theorem put_new {l : List Ent} {e : Ent} (h : ¬ e ∈ l) : (putE l e).length = l.length + 1 := by
 induction l with
 | nil => rfl
 | cons a l ih =>
   unfold putE
   rw [if_neg (fun h0 => h (by rw [cmpE_zero h0]; simp))]
   split
   · rfl
   · rw [List.length_cons, ih (fun h1 => h (by simp [h1])), List.length_cons]
theorem set_nodup {l : List Ent} (h : l.Nodup) : (setE l).length = l.length := by
 have : ∀ (l s : List Ent), (∀ e ∈ l, ¬ e ∈ s) → l.Nodup → (l.foldl putE s).length = s.length + l.length := by
  intro l
  induction l with
  | nil => intro s _ _; rfl
  | cons a l ih =>
    intro s hs hn
    obtain ⟨h1, h2⟩ := List.nodup_cons.1 hn
    rw [List.foldl_cons, ih (putE s a) (fun e he hm => ?_) h2, put_new (hs a (by simp)), List.length_cons]
    · omega
    · rcases mem_put.1 hm with hm | rfl
      · exact hs e (by simp [he]) hm
      · exact h1 he
 unfold setE
 simpa using this l [] (fun e _ => by simp) h
theorem set_filter (p : Ent → Bool) (l : List Ent) : (setE l).filter p = setE (l.filter p) :=
 setE_of (List.Pairwise.filter _ (setE_up l)) fun e => by rw [List.mem_filter, mem_set, List.mem_filter]
theorem set_map {α : Type} (f : α → Ent) {K : List α} (hK : K.Nodup) (inj : ∀ a ∈ K, ∀ b ∈ K, f a = f b → a = b) : (setE (K.map f)).length = K.length := by
 rw [set_nodup, List.length_map]
 unfold List.Nodup at hK ⊢
 rw [List.pairwise_map]
 exact hK.imp_of_mem fun {a b} ha hb hne e => hne (inj a ha b hb e)
theorem kw_nodup (hS : S.Pairwise pLt) (P : List ByteArray) : (kw S P).Nodup := by
 unfold kw List.Nodup
 rw [List.pairwise_map]
 refine (List.Pairwise.filter (isKid P) hS).imp_of_mem fun {a b} ha hb hlt e => ?_
 obtain ⟨x, rfl⟩ := isKid_iff.1 (List.mem_filter.1 ha).2
 obtain ⟨y, rfl⟩ := isKid_iff.1 (List.mem_filter.1 hb).2
 have hx : (P ++ [x]).getLastD ⟨#[]⟩ = x := by rw [List.getLastD_eq_getLast?, List.getLast?_append]; rfl
 have hy : (P ++ [y]).getLastD ⟨#[]⟩ = y := by rw [List.getLastD_eq_getLast?, List.getLast?_append]; rfl
 rw [hx, hy] at e
 subst e
 exact pLt_irrefl _ hlt
def ofHK (h : ByteArray) (k : Int) (x : Ent) : Bool := decide (x.host = h) && decide (x.kind = k)
def manyE (l : List Ent) (h : ByteArray) (k : Int) : Nat := (l.filter (ofHK h k)).length
theorem many_set {h : ByteArray} {k : Int} {α : Type} (f : α → Ent) {K : List α} (hK : K.Nodup) (inj : ∀ a ∈ K, ∀ b ∈ K, f a = f b → a = b) (hm : ∀ e, (e ∈ allU S ∧ e.host = h ∧ e.kind = k) ↔ e ∈ K.map f) :
 manyE (setE (allU S)) h k = K.length := by
 unfold manyE
 rw [set_filter, setE_same (m := K.map f) fun e => ?_, set_map f hK inj]
 rw [List.mem_filter, ← hm e]
 unfold ofHK
 rw [Bool.and_eq_true, decide_eq_true_eq, decide_eq_true_eq]
theorem of_kind {h : ByteArray} (hh : h ∈ kw S [wHosts]) {e : Ent} {k : Int} : (e ∈ allU S ∧ e.host = h ∧ e.kind = k) ↔ e ∈ hostU S h ∧ e.kind = k := by
 constructor
 · rintro ⟨h1, rfl, h3⟩; exact ⟨(mem_all.1 h1).2, h3⟩
 · rintro ⟨h1, h2⟩
   have := host_host h1
   subst this
   exact ⟨mem_all.2 ⟨hh, h1⟩, rfl, h2⟩
theorem many_routes (hS : S.Pairwise pLt) {h : ByteArray} (hh : h ∈ kw S [wHosts]) : manyE (setE (allU S)) h 4 = (kw S [wRoutes]).length := by
 refine many_set (routeU S h) (kw_nodup hS _) (fun a _ b _ e => by have := congrArg Ent.key e; exact this) fun e => ?_
 rw [of_kind hh]
 constructor
 · rintro ⟨h1, h2⟩
   rcases mem_host.1 h1 with ((h3 | h3) | h3) | h3
   · have := (kind_floods h3).2; omega
   · have := (kind_bind h3).2; omega
   · exact h3
   · have := (kind_pols h3).2; omega
 · intro h1; exact ⟨mem_host.2 (.inl (.inr h1)), (kind_routes h1).2⟩
theorem many_pols (hS : S.Pairwise pLt) {h : ByteArray} (hh : h ∈ kw S [wHosts]) : manyE (setE (allU S)) h 5 = (kw S [wPolicy]).length := by
 refine many_set (polU S h) (kw_nodup hS _) (fun a _ b _ e => by have := congrArg Ent.key e; exact this) fun e => ?_
 rw [of_kind hh]
 constructor
 · rintro ⟨h1, h2⟩
   rcases mem_host.1 h1 with ((h3 | h3) | h3) | h3
   · have := (kind_floods h3).2; omega
   · have := (kind_bind h3).2; omega
   · have := (kind_routes h3).2; omega
   · exact h3
 · intro h1; exact ⟨mem_host.2 (.inr h1), (kind_pols h1).2⟩
theorem tail_inj {a a' b b' : List UInt8} (hb : ¬ (32 : UInt8) ∈ b) (hb' : ¬ (32 : UInt8) ∈ b') (h : a ++ 32 :: b = a' ++ 32 :: b') : b = b' := by
 rcases List.append_eq_append_iff.1 h with ⟨c, -, h2⟩ | ⟨c, -, h2⟩
 · cases c with
   | nil => simpa using h2
   | cons x c =>
     rw [List.cons_append, List.cons.injEq] at h2
     exact absurd (by rw [h2.2]; simp) hb
 · cases c with
   | nil => simpa using h2.symm
   | cons x c =>
     rw [List.cons_append, List.cons.injEq] at h2
     exact absurd (by rw [h2.2]; simp) hb'
theorem sp_data (a b : ByteArray) : (spB a b).data.toList = a.data.toList ++ 32 :: b.data.toList := by
 unfold spB
 simp [ByteArray.data_append]
theorem sp_inj {a a' b b' : ByteArray} (hb : ¬ (32 : UInt8) ∈ b.data.toList) (hb' : ¬ (32 : UInt8) ∈ b'.data.toList) (h : spB a b = spB a' b') : b = b' := by
 have := congrArg (fun s : ByteArray => s.data.toList) h
 simp only [sp_data] at this
 exact data_inj (tail_inj hb hb' this)
theorem Fine.bindName (hF : Fine S) {i : ByteArray} (hi : i ∈ kw S [wBind]) : ¬ (32 : UInt8) ∈ i.data.toList := by
 have hP : [wBind, i] ∈ S := by simpa using mem_kw.1 hi
 obtain ⟨r, hr, -⟩ := hF.rule hP
 rw [rule_2, second_bind, type_ip] at hr
 by_cases h : 0 ≤ Adr.ip i.data.toList
 · intro hm
   rw [← (Adr.ip_fore _ h).2] at hm
   rcases ip_chars _ _ hm with h1 | h1
   · revert h1; decide +kernel
   · revert h1; decide +kernel
 · rw [decide_eq_false h] at hr; simp at hr
def arpU (S : List (List ByteArray)) (h i : ByteArray) : Ent := ⟨h, 2, spB (vniU S i) i, macU S i⟩
theorem many_arp (hF : Fine S) (hS : S.Pairwise pLt) {h : ByteArray} (hh : h ∈ kw S [wHosts]) : manyE (setE (allU S)) h 2 = ((kw S [wBind]).filter fun i => inU S h (vniU S i)).length := by
 refine many_set (arpU S h) (List.Pairwise.filter _ (kw_nodup hS _)) (fun a ha b hb e => ?_) fun e => ?_
 · exact sp_inj (hF.bindName (List.mem_filter.1 ha).1) (hF.bindName (List.mem_filter.1 hb).1) (congrArg Ent.key e)
 · rw [of_kind hh, List.mem_map]
   constructor
   · rintro ⟨h1, h2⟩
     rcases mem_host.1 h1 with ((h3 | h3) | h3) | h3
     · have := (kind_floods h3).2; omega
     · obtain ⟨i, hi, he⟩ := List.mem_flatMap.1 h3
       obtain ⟨g1, g2⟩ := mem_bind he
       refine ⟨i, List.mem_filter.2 ⟨hi, g1⟩, ?_⟩
       rcases g2 with g2 | g2
       · exact g2.symm
       · rw [g2] at h2; simp at h2
     · have := (kind_routes h3).2; omega
     · have := (kind_pols h3).2; omega
   · rintro ⟨i, hi, rfl⟩
     obtain ⟨g1, g2⟩ := List.mem_filter.1 hi
     refine ⟨mem_host.2 (.inl (.inl (.inr (List.mem_flatMap.2 ⟨i, g1, ?_⟩)))), rfl⟩
     unfold bindU
     rw [if_pos g2]
     exact List.mem_cons_self
def boundU (S : List (List ByteArray)) (h : ByteArray) (I : List ByteArray) : List ByteArray := I.flatMap fun i => (kw S [wBind, i, wVni]).filter fun v => memB [wHosts, h, wVnis, v] S
theorem in_mem {h v : ByteArray} : inU S h v = memB [wHosts, h, wVnis, v] S := by
 unfold inU
 rw [Bool.eq_iff_iff, memB_iff, memB_iff, mem_kw]
 simp
theorem bound_len (hF : Fine S) (h : ByteArray) : ∀ {I : List ByteArray}, (∀ i ∈ I, i ∈ kw S [wBind]) → (boundU S h I).length = (I.filter fun i => inU S h (vniU S i)).length
 | [], _ => rfl
 | i :: I, hI => by
   have hP : [wBind, i] ∈ S := by simpa using mem_kw.1 (hI i (by simp))
   obtain ⟨x, hx, -⟩ := hF.single (c := wVni) hP need_vni (by decide +kernel)
   have hv : vniU S i = x := by unfold vniU; exact one_of hx
   have ih := bound_len hF h (I := I) fun j hj => hI j (by simp [hj])
   unfold boundU at ih ⊢
   have e : inU S h (vniU S i) = memB [wHosts, h, wVnis, x] S := by rw [hv, in_mem]
   rw [List.flatMap_cons, List.length_append, ih, hx]
   by_cases hm : memB [wHosts, h, wVnis, x] S = true
   · have e1 : ([x].filter fun v => memB [wHosts, h, wVnis, v] S) = [x] := by simp [hm]
     have e2 : ((i :: I).filter fun i => inU S h (vniU S i)) = i :: I.filter fun i => inU S h (vniU S i) := List.filter_cons_of_pos (by rw [e]; exact hm)
     rw [e1, e2]; simp; omega
   · have e1 : ([x].filter fun v => memB [wHosts, h, wVnis, v] S) = [] := by simp [hm]
     have e2 : ((i :: I).filter fun i => inU S h (vniU S i)) = I.filter fun i => inU S h (vniU S i) := List.filter_cons_of_neg (by rw [e]; exact hm)
     rw [e1, e2]; simp
end
end Hst
