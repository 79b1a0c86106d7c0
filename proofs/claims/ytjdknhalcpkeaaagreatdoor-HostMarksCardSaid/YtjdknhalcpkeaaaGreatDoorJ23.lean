/- Walks: the reference's Second, Third, Needs. -/
import Derived.Test.YtjdknhalcpkeaaaGreatDoorJ18
import Derived.Test.YtjdknhalcpkeaaaGreatDoorJ21
namespace Sch
open Go Go.Lib Adr Mtr Tre
theorem cat_list (a c : ByteArray) : (a ++ ⟨#[32]⟩ ++ c).toList = a.data.toList ++ 32 :: c.data.toList := by
 rw [Lib.toList_data]; simp [ByteArray.data_append]
theorem cat_iff {a c x y : List UInt8} (hx : (32 : UInt8) ∉ x) (hy : (32 : UInt8) ∉ y) : a ++ 32 :: c = x ++ 32 :: y ↔ a = x ∧ c = y := by
 constructor
 · intro h
   rcases List.append_eq_append_iff.1 h with ⟨t, h1, h2⟩ | ⟨t, h1, h2⟩
   · cases t with
     | nil => simp at h1 h2; exact ⟨h1.symm, h2⟩
     | cons z t =>
       simp only [List.cons_append, List.cons.injEq] at h2
       exact absurd (by rw [h1, ← h2.1]; simp) hx
   · cases t with
     | nil => simp at h1 h2; exact ⟨h1, h2.symm⟩
     | cons z t =>
       simp only [List.cons_append, List.cons.injEq] at h2
       exact absurd (by rw [h2.2]; simp) hy
 · rintro ⟨rfl, rfl⟩; rfl
theorem data_eq {a : ByteArray} {x : List UInt8} : a.data.toList = x ↔ a = ⟨x.toArray⟩ := by
 constructor
 · rintro rfl; exact (Lib.mk_data a).symm
 · rintro rfl; simp
theorem cat_test {a c S : ByteArray} (h : a ++ ⟨#[32]⟩ ++ c = S) (x y : List UInt8) (hx : (32 : UInt8) ∉ x) (hy : (32 : UInt8) ∉ y) : (S.toList == x ++ 32 :: y) = decide (a = ⟨x.toArray⟩ ∧ c = ⟨y.toArray⟩) := by
 rw [← h, cat_list, Bool.eq_iff_iff, beq_iff_eq, cat_iff hx hy, data_eq, data_eq, decide_eq_true_eq]
end Sch
namespace Go.Proofs.YtjdknhalcpkeaaaGreatDoor
open Go Go.RowKit Go.Sort Sch Adr Mtr Tre
set_option maxHeartbeats 2000000 in
set_option maxRecDepth 100000 in
theorem second_any (a : ByteArray) (w : World) : Calls Tryz.prog 107 #[.string a] w fun e w' => e = .returned (.string (secondB a)) ∧ Below w.heap.size w w' := by
 by_cases e0 : a = wHosts
 · have HV : Hid (secondB a = tName) := by show _ = _; rw [e0, second_hosts]
   have q0 : (a.toList == [104, 111, 115, 116, 115]) = true := (type_eq a _).trans (decide_eq_true e0)
   have p0 : a.toList = [104, 111, 115, 116, 115] := by simpa using q0
   clear e0
   go_enter Tryz.func107, Tryz.ntmps107
   go_wp2
   go_ret
   exact ⟨by rw [HV.out]; rfl, Below.refl _ _⟩
 by_cases e1 : a = wVnis
 · have HV : Hid (secondB a = tVni) := by show _ = _; rw [e1, second_vnis]
   have q0 : (a.toList == [104, 111, 115, 116, 115]) = false := (type_eq a _).trans (decide_eq_false e0)
   have p0 : ¬ a.toList = [104, 111, 115, 116, 115] := by simpa using q0
   have q1 : (a.toList == [118, 110, 105, 115]) = true := (type_eq a _).trans (decide_eq_true e1)
   have p1 : a.toList = [118, 110, 105, 115] := by simpa using q1
   clear e0 e1
   go_enter Tryz.func107, Tryz.ntmps107
   go_wp2
   go_ret
   exact ⟨by rw [HV.out]; rfl, Below.refl _ _⟩
 by_cases e2 : a = wBind
 · have HV : Hid (secondB a = tIp) := by show _ = _; rw [e2, second_bind]
   have q0 : (a.toList == [104, 111, 115, 116, 115]) = false := (type_eq a _).trans (decide_eq_false e0)
   have p0 : ¬ a.toList = [104, 111, 115, 116, 115] := by simpa using q0
   have q1 : (a.toList == [118, 110, 105, 115]) = false := (type_eq a _).trans (decide_eq_false e1)
   have p1 : ¬ a.toList = [118, 110, 105, 115] := by simpa using q1
   have q2 : (a.toList == [98, 105, 110, 100, 105, 110, 103, 115]) = true := (type_eq a _).trans (decide_eq_true e2)
   have p2 : a.toList = [98, 105, 110, 100, 105, 110, 103, 115] := by simpa using q2
   clear e0 e1 e2
   go_enter Tryz.func107, Tryz.ntmps107
   go_wp2
   go_ret
   exact ⟨by rw [HV.out]; rfl, Below.refl _ _⟩
 by_cases e3 : a = wRoutes
 · have HV : Hid (secondB a = tPrefix) := by show _ = _; rw [e3, second_routes]
   have q0 : (a.toList == [104, 111, 115, 116, 115]) = false := (type_eq a _).trans (decide_eq_false e0)
   have p0 : ¬ a.toList = [104, 111, 115, 116, 115] := by simpa using q0
   have q1 : (a.toList == [118, 110, 105, 115]) = false := (type_eq a _).trans (decide_eq_false e1)
   have p1 : ¬ a.toList = [118, 110, 105, 115] := by simpa using q1
   have q2 : (a.toList == [98, 105, 110, 100, 105, 110, 103, 115]) = false := (type_eq a _).trans (decide_eq_false e2)
   have p2 : ¬ a.toList = [98, 105, 110, 100, 105, 110, 103, 115] := by simpa using q2
   have q3 : (a.toList == [114, 111, 117, 116, 101, 115]) = true := (type_eq a _).trans (decide_eq_true e3)
   have p3 : a.toList = [114, 111, 117, 116, 101, 115] := by simpa using q3
   clear e0 e1 e2 e3
   go_enter Tryz.func107, Tryz.ntmps107
   go_wp2
   go_ret
   exact ⟨by rw [HV.out]; rfl, Below.refl _ _⟩
 by_cases e4 : a = wPolicy
 · have HV : Hid (secondB a = tNum) := by show _ = _; rw [e4, second_policy]
   have q0 : (a.toList == [104, 111, 115, 116, 115]) = false := (type_eq a _).trans (decide_eq_false e0)
   have p0 : ¬ a.toList = [104, 111, 115, 116, 115] := by simpa using q0
   have q1 : (a.toList == [118, 110, 105, 115]) = false := (type_eq a _).trans (decide_eq_false e1)
   have p1 : ¬ a.toList = [118, 110, 105, 115] := by simpa using q1
   have q2 : (a.toList == [98, 105, 110, 100, 105, 110, 103, 115]) = false := (type_eq a _).trans (decide_eq_false e2)
   have p2 : ¬ a.toList = [98, 105, 110, 100, 105, 110, 103, 115] := by simpa using q2
   have q3 : (a.toList == [114, 111, 117, 116, 101, 115]) = false := (type_eq a _).trans (decide_eq_false e3)
   have p3 : ¬ a.toList = [114, 111, 117, 116, 101, 115] := by simpa using q3
   have q4 : (a.toList == [112, 111, 108, 105, 99, 121]) = true := (type_eq a _).trans (decide_eq_true e4)
   have p4 : a.toList = [112, 111, 108, 105, 99, 121] := by simpa using q4
   clear e0 e1 e2 e3 e4
   go_enter Tryz.func107, Tryz.ntmps107
   go_wp2
   go_ret
   exact ⟨by rw [HV.out]; rfl, Below.refl _ _⟩
 have HV : Hid (secondB a = ⟨#[]⟩) := second_none e0 e1 e2 e3 e4
 have q0 : (a.toList == [104, 111, 115, 116, 115]) = false := (type_eq a _).trans (decide_eq_false e0)
 have p0 : ¬ a.toList = [104, 111, 115, 116, 115] := by simpa using q0
 have q1 : (a.toList == [118, 110, 105, 115]) = false := (type_eq a _).trans (decide_eq_false e1)
 have p1 : ¬ a.toList = [118, 110, 105, 115] := by simpa using q1
 have q2 : (a.toList == [98, 105, 110, 100, 105, 110, 103, 115]) = false := (type_eq a _).trans (decide_eq_false e2)
 have p2 : ¬ a.toList = [98, 105, 110, 100, 105, 110, 103, 115] := by simpa using q2
 have q3 : (a.toList == [114, 111, 117, 116, 101, 115]) = false := (type_eq a _).trans (decide_eq_false e3)
 have p3 : ¬ a.toList = [114, 111, 117, 116, 101, 115] := by simpa using q3
 have q4 : (a.toList == [112, 111, 108, 105, 99, 121]) = false := (type_eq a _).trans (decide_eq_false e4)
 have p4 : ¬ a.toList = [112, 111, 108, 105, 99, 121] := by simpa using q4
 clear e0 e1 e2 e3 e4
 go_enter Tryz.func107, Tryz.ntmps107
 go_wp2
 go_ret
 exact ⟨by rw [HV.out]; rfl, Below.refl _ _⟩
set_option maxHeartbeats 2000000 in
set_option maxRecDepth 100000 in
theorem refNeeds_any (a : ByteArray) (w : World) : Calls Tryz.prog 69 #[.string a] w (StrsEnd w (needs2 a)) := by
 by_cases e0 : a = wHosts
 · have HV : Hid (needs2 a = [wIp]) := by show _ = _; rw [e0]; decide +kernel
   have q0 : (a.toList == [104, 111, 115, 116, 115]) = true := (type_eq a _).trans (decide_eq_true e0)
   have p0 : a.toList = [104, 111, 115, 116, 115] := by simpa using q0
   clear e0
   go_enter Tryz.func69, Tryz.ntmps69
   go_wp2
   go_ret
   rw [HV.out]
   exact ⟨some ⟨w.heap.size, 0, none⟩, 1, rfl, Nat.le_refl 1, by unfold maxLen; decide, rd_lit w [wIp] _, ⟨fun h => (by cases h), zd_some _⟩, (Below.refl _ _).alloc (Nat.le_refl _) _⟩
 by_cases e1 : a = wVnis
 · have HV : Hid (needs2 a = [wSubnet]) := by show _ = _; rw [e1]; decide +kernel
   have q0 : (a.toList == [104, 111, 115, 116, 115]) = false := (type_eq a _).trans (decide_eq_false e0)
   have p0 : ¬ a.toList = [104, 111, 115, 116, 115] := by simpa using q0
   have q1 : (a.toList == [118, 110, 105, 115]) = true := (type_eq a _).trans (decide_eq_true e1)
   have p1 : a.toList = [118, 110, 105, 115] := by simpa using q1
   clear e0 e1
   go_enter Tryz.func69, Tryz.ntmps69
   go_wp2
   go_ret
   rw [HV.out]
   exact ⟨some ⟨w.heap.size, 0, none⟩, 1, rfl, Nat.le_refl 1, by unfold maxLen; decide, rd_lit w [wSubnet] _, ⟨fun h => (by cases h), zd_some _⟩, (Below.refl _ _).alloc (Nat.le_refl _) _⟩
 by_cases e2 : a = wBind
 · have HV : Hid (needs2 a = [wHost, wMac, wVni]) := by show _ = _; rw [e2]; decide +kernel
   have q0 : (a.toList == [104, 111, 115, 116, 115]) = false := (type_eq a _).trans (decide_eq_false e0)
   have p0 : ¬ a.toList = [104, 111, 115, 116, 115] := by simpa using q0
   have q1 : (a.toList == [118, 110, 105, 115]) = false := (type_eq a _).trans (decide_eq_false e1)
   have p1 : ¬ a.toList = [118, 110, 105, 115] := by simpa using q1
   have q2 : (a.toList == [98, 105, 110, 100, 105, 110, 103, 115]) = true := (type_eq a _).trans (decide_eq_true e2)
   have p2 : a.toList = [98, 105, 110, 100, 105, 110, 103, 115] := by simpa using q2
   clear e0 e1 e2
   go_enter Tryz.func69, Tryz.ntmps69
   go_wp2
   go_ret
   rw [HV.out]
   exact ⟨some ⟨w.heap.size, 0, none⟩, 3, rfl, Nat.le_refl 3, by unfold maxLen; decide, rd_lit w [wHost, wMac, wVni] _, ⟨fun h => (by cases h), zd_some _⟩, (Below.refl _ _).alloc (Nat.le_refl _) _⟩
 by_cases e3 : a = wRoutes
 · have HV : Hid (needs2 a = [wVia]) := by show _ = _; rw [e3]; decide +kernel
   have q0 : (a.toList == [104, 111, 115, 116, 115]) = false := (type_eq a _).trans (decide_eq_false e0)
   have p0 : ¬ a.toList = [104, 111, 115, 116, 115] := by simpa using q0
   have q1 : (a.toList == [118, 110, 105, 115]) = false := (type_eq a _).trans (decide_eq_false e1)
   have p1 : ¬ a.toList = [118, 110, 105, 115] := by simpa using q1
   have q2 : (a.toList == [98, 105, 110, 100, 105, 110, 103, 115]) = false := (type_eq a _).trans (decide_eq_false e2)
   have p2 : ¬ a.toList = [98, 105, 110, 100, 105, 110, 103, 115] := by simpa using q2
   have q3 : (a.toList == [114, 111, 117, 116, 101, 115]) = true := (type_eq a _).trans (decide_eq_true e3)
   have p3 : a.toList = [114, 111, 117, 116, 101, 115] := by simpa using q3
   clear e0 e1 e2 e3
   go_enter Tryz.func69, Tryz.ntmps69
   go_wp2
   go_ret
   rw [HV.out]
   exact ⟨some ⟨w.heap.size, 0, none⟩, 1, rfl, Nat.le_refl 1, by unfold maxLen; decide, rd_lit w [wVia] _, ⟨fun h => (by cases h), zd_some _⟩, (Below.refl _ _).alloc (Nat.le_refl _) _⟩
 by_cases e4 : a = wPolicy
 · have HV : Hid (needs2 a = [wAction]) := by show _ = _; rw [e4]; decide +kernel
   have q0 : (a.toList == [104, 111, 115, 116, 115]) = false := (type_eq a _).trans (decide_eq_false e0)
   have p0 : ¬ a.toList = [104, 111, 115, 116, 115] := by simpa using q0
   have q1 : (a.toList == [118, 110, 105, 115]) = false := (type_eq a _).trans (decide_eq_false e1)
   have p1 : ¬ a.toList = [118, 110, 105, 115] := by simpa using q1
   have q2 : (a.toList == [98, 105, 110, 100, 105, 110, 103, 115]) = false := (type_eq a _).trans (decide_eq_false e2)
   have p2 : ¬ a.toList = [98, 105, 110, 100, 105, 110, 103, 115] := by simpa using q2
   have q3 : (a.toList == [114, 111, 117, 116, 101, 115]) = false := (type_eq a _).trans (decide_eq_false e3)
   have p3 : ¬ a.toList = [114, 111, 117, 116, 101, 115] := by simpa using q3
   have q4 : (a.toList == [112, 111, 108, 105, 99, 121]) = true := (type_eq a _).trans (decide_eq_true e4)
   have p4 : a.toList = [112, 111, 108, 105, 99, 121] := by simpa using q4
   clear e0 e1 e2 e3 e4
   go_enter Tryz.func69, Tryz.ntmps69
   go_wp2
   go_ret
   rw [HV.out]
   exact ⟨some ⟨w.heap.size, 0, none⟩, 1, rfl, Nat.le_refl 1, by unfold maxLen; decide, rd_lit w [wAction] _, ⟨fun h => (by cases h), zd_some _⟩, (Below.refl _ _).alloc (Nat.le_refl _) _⟩
 have HV : Hid (needs2 a = []) := by show _ = _; unfold needs2; rw [if_neg e0, if_neg e1, if_neg e2, if_neg e3, if_neg e4]
 have q0 : (a.toList == [104, 111, 115, 116, 115]) = false := (type_eq a _).trans (decide_eq_false e0)
 have p0 : ¬ a.toList = [104, 111, 115, 116, 115] := by simpa using q0
 have q1 : (a.toList == [118, 110, 105, 115]) = false := (type_eq a _).trans (decide_eq_false e1)
 have p1 : ¬ a.toList = [118, 110, 105, 115] := by simpa using q1
 have q2 : (a.toList == [98, 105, 110, 100, 105, 110, 103, 115]) = false := (type_eq a _).trans (decide_eq_false e2)
 have p2 : ¬ a.toList = [98, 105, 110, 100, 105, 110, 103, 115] := by simpa using q2
 have q3 : (a.toList == [114, 111, 117, 116, 101, 115]) = false := (type_eq a _).trans (decide_eq_false e3)
 have p3 : ¬ a.toList = [114, 111, 117, 116, 101, 115] := by simpa using q3
 have q4 : (a.toList == [112, 111, 108, 105, 99, 121]) = false := (type_eq a _).trans (decide_eq_false e4)
 have p4 : ¬ a.toList = [112, 111, 108, 105, 99, 121] := by simpa using q4
 clear e0 e1 e2 e3 e4
 go_enter Tryz.func69, Tryz.ntmps69
 go_wp2
 go_ret
 rw [HV.out]
 exact ⟨none, 0, rfl, Nat.le_refl _, by unfold maxLen; omega, Rd.nil, ⟨fun _ => rfl, zd_none⟩, Below.refl _ _⟩
def thirdRet (x : ByteArray × Bool × Bool) : Value := .tuple #[.string x.1, .bool x.2.1, .bool x.2.2]
set_option maxHeartbeats 4000000 in
set_option maxRecDepth 100000 in
theorem third_any (a c : ByteArray) (w : World) (ha : a.size ≤ 100000000) (hc : c.size ≤ 100000000) : Calls Tryz.prog 68 #[.string a, .string c] w fun e w' => e = .returned (thirdRet (thirdB a c)) ∧ Below w.heap.size w w' := by
 obtain ⟨S, hS⟩ : ∃ S, a ++ ⟨#[32]⟩ ++ c = S := ⟨_, rfl⟩
 have HT := Lib.hid (fun x y hx hy => cat_test hS x y hx hy)
 have hs1 : (a ++ ⟨#[32]⟩ : ByteArray).size = a.size + 1 := by rw [ByteArray.size_append]; rfl
 by_cases e0 : a = wHosts ∧ c = wIp
 · have HV : Hid (thirdB a c = (tIp, true, true)) := by show _ = _; rw [e0.1, e0.2, third_hosts_wIp]
   have q0 : (S.toList == [104, 111, 115, 116, 115, 32, 105, 112]) = true := (HT.out [104, 111, 115, 116, 115] [105, 112] (by decide) (by decide)).trans (decide_eq_true e0)
   have p0 : S.toList = [104, 111, 115, 116, 115, 32, 105, 112] := by simpa using q0
   clear HT e0
   go_enter Tryz.func68, Tryz.ntmps68
   go_wp2
   refine bodyPost_ret (v := thirdRet (tIp, true, true)) (by simp [results, Tryz.results68, go_sem, thirdRet, tIp]) rfl ?_
   exact ⟨by rw [HV.out], Below.refl _ _⟩
 by_cases e1 : a = wHosts ∧ c = wMac
 · have HV : Hid (thirdB a c = (tMac, true, false)) := by show _ = _; rw [e1.1, e1.2, third_hosts_wMac]
   have q0 : (S.toList == [104, 111, 115, 116, 115, 32, 105, 112]) = false := (HT.out [104, 111, 115, 116, 115] [105, 112] (by decide) (by decide)).trans (decide_eq_false e0)
   have p0 : ¬ S.toList = [104, 111, 115, 116, 115, 32, 105, 112] := by simpa using q0
   have q1 : (S.toList == [104, 111, 115, 116, 115, 32, 109, 97, 99]) = true := (HT.out [104, 111, 115, 116, 115] [109, 97, 99] (by decide) (by decide)).trans (decide_eq_true e1)
   have p1 : S.toList = [104, 111, 115, 116, 115, 32, 109, 97, 99] := by simpa using q1
   clear HT e0 e1
   go_enter Tryz.func68, Tryz.ntmps68
   go_wp2
   refine bodyPost_ret (v := thirdRet (tMac, true, false)) (by simp [results, Tryz.results68, go_sem, thirdRet, tMac]) rfl ?_
   exact ⟨by rw [HV.out], Below.refl _ _⟩
 by_cases e2 : a = wHosts ∧ c = wVnis
 · have HV : Hid (thirdB a c = (tVni, false, false)) := by show _ = _; rw [e2.1, e2.2, third_hosts_wVnis]
   have q0 : (S.toList == [104, 111, 115, 116, 115, 32, 105, 112]) = false := (HT.out [104, 111, 115, 116, 115] [105, 112] (by decide) (by decide)).trans (decide_eq_false e0)
   have p0 : ¬ S.toList = [104, 111, 115, 116, 115, 32, 105, 112] := by simpa using q0
   have q1 : (S.toList == [104, 111, 115, 116, 115, 32, 109, 97, 99]) = false := (HT.out [104, 111, 115, 116, 115] [109, 97, 99] (by decide) (by decide)).trans (decide_eq_false e1)
   have p1 : ¬ S.toList = [104, 111, 115, 116, 115, 32, 109, 97, 99] := by simpa using q1
   have q2 : (S.toList == [104, 111, 115, 116, 115, 32, 118, 110, 105, 115]) = true := (HT.out [104, 111, 115, 116, 115] [118, 110, 105, 115] (by decide) (by decide)).trans (decide_eq_true e2)
   have p2 : S.toList = [104, 111, 115, 116, 115, 32, 118, 110, 105, 115] := by simpa using q2
   clear HT e0 e1 e2
   go_enter Tryz.func68, Tryz.ntmps68
   go_wp2
   refine bodyPost_ret (v := thirdRet (tVni, false, false)) (by simp [results, Tryz.results68, go_sem, thirdRet, tVni]) rfl ?_
   exact ⟨by rw [HV.out], Below.refl _ _⟩
 by_cases e3 : a = wVnis ∧ c = wSubnet
 · have HV : Hid (thirdB a c = (tPrefix, true, true)) := by show _ = _; rw [e3.1, e3.2, third_vnis_wSubnet]
   have q0 : (S.toList == [104, 111, 115, 116, 115, 32, 105, 112]) = false := (HT.out [104, 111, 115, 116, 115] [105, 112] (by decide) (by decide)).trans (decide_eq_false e0)
   have p0 : ¬ S.toList = [104, 111, 115, 116, 115, 32, 105, 112] := by simpa using q0
   have q1 : (S.toList == [104, 111, 115, 116, 115, 32, 109, 97, 99]) = false := (HT.out [104, 111, 115, 116, 115] [109, 97, 99] (by decide) (by decide)).trans (decide_eq_false e1)
   have p1 : ¬ S.toList = [104, 111, 115, 116, 115, 32, 109, 97, 99] := by simpa using q1
   have q2 : (S.toList == [104, 111, 115, 116, 115, 32, 118, 110, 105, 115]) = false := (HT.out [104, 111, 115, 116, 115] [118, 110, 105, 115] (by decide) (by decide)).trans (decide_eq_false e2)
   have p2 : ¬ S.toList = [104, 111, 115, 116, 115, 32, 118, 110, 105, 115] := by simpa using q2
   have q3 : (S.toList == [118, 110, 105, 115, 32, 115, 117, 98, 110, 101, 116]) = true := (HT.out [118, 110, 105, 115] [115, 117, 98, 110, 101, 116] (by decide) (by decide)).trans (decide_eq_true e3)
   have p3 : S.toList = [118, 110, 105, 115, 32, 115, 117, 98, 110, 101, 116] := by simpa using q3
   clear HT e0 e1 e2 e3
   go_enter Tryz.func68, Tryz.ntmps68
   go_wp2
   refine bodyPost_ret (v := thirdRet (tPrefix, true, true)) (by simp [results, Tryz.results68, go_sem, thirdRet, tPrefix]) rfl ?_
   exact ⟨by rw [HV.out], Below.refl _ _⟩
 by_cases e4 : a = wBind ∧ c = wHost
 · have HV : Hid (thirdB a c = (tName, true, true)) := by show _ = _; rw [e4.1, e4.2, third_bind_wHost]
   have q0 : (S.toList == [104, 111, 115, 116, 115, 32, 105, 112]) = false := (HT.out [104, 111, 115, 116, 115] [105, 112] (by decide) (by decide)).trans (decide_eq_false e0)
   have p0 : ¬ S.toList = [104, 111, 115, 116, 115, 32, 105, 112] := by simpa using q0
   have q1 : (S.toList == [104, 111, 115, 116, 115, 32, 109, 97, 99]) = false := (HT.out [104, 111, 115, 116, 115] [109, 97, 99] (by decide) (by decide)).trans (decide_eq_false e1)
   have p1 : ¬ S.toList = [104, 111, 115, 116, 115, 32, 109, 97, 99] := by simpa using q1
   have q2 : (S.toList == [104, 111, 115, 116, 115, 32, 118, 110, 105, 115]) = false := (HT.out [104, 111, 115, 116, 115] [118, 110, 105, 115] (by decide) (by decide)).trans (decide_eq_false e2)
   have p2 : ¬ S.toList = [104, 111, 115, 116, 115, 32, 118, 110, 105, 115] := by simpa using q2
   have q3 : (S.toList == [118, 110, 105, 115, 32, 115, 117, 98, 110, 101, 116]) = false := (HT.out [118, 110, 105, 115] [115, 117, 98, 110, 101, 116] (by decide) (by decide)).trans (decide_eq_false e3)
   have p3 : ¬ S.toList = [118, 110, 105, 115, 32, 115, 117, 98, 110, 101, 116] := by simpa using q3
   have q4 : (S.toList == [98, 105, 110, 100, 105, 110, 103, 115, 32, 104, 111, 115, 116]) = true := (HT.out [98, 105, 110, 100, 105, 110, 103, 115] [104, 111, 115, 116] (by decide) (by decide)).trans (decide_eq_true e4)
   have p4 : S.toList = [98, 105, 110, 100, 105, 110, 103, 115, 32, 104, 111, 115, 116] := by simpa using q4
   clear HT e0 e1 e2 e3 e4
   go_enter Tryz.func68, Tryz.ntmps68
   go_wp2
   refine bodyPost_ret (v := thirdRet (tName, true, true)) (by simp [results, Tryz.results68, go_sem, thirdRet, tName]) rfl ?_
   exact ⟨by rw [HV.out], Below.refl _ _⟩
 by_cases e5 : a = wRoutes ∧ c = wVia
 · have HV : Hid (thirdB a c = (tName, true, true)) := by show _ = _; rw [e5.1, e5.2, third_routes_wVia]
   have q0 : (S.toList == [104, 111, 115, 116, 115, 32, 105, 112]) = false := (HT.out [104, 111, 115, 116, 115] [105, 112] (by decide) (by decide)).trans (decide_eq_false e0)
   have p0 : ¬ S.toList = [104, 111, 115, 116, 115, 32, 105, 112] := by simpa using q0
   have q1 : (S.toList == [104, 111, 115, 116, 115, 32, 109, 97, 99]) = false := (HT.out [104, 111, 115, 116, 115] [109, 97, 99] (by decide) (by decide)).trans (decide_eq_false e1)
   have p1 : ¬ S.toList = [104, 111, 115, 116, 115, 32, 109, 97, 99] := by simpa using q1
   have q2 : (S.toList == [104, 111, 115, 116, 115, 32, 118, 110, 105, 115]) = false := (HT.out [104, 111, 115, 116, 115] [118, 110, 105, 115] (by decide) (by decide)).trans (decide_eq_false e2)
   have p2 : ¬ S.toList = [104, 111, 115, 116, 115, 32, 118, 110, 105, 115] := by simpa using q2
   have q3 : (S.toList == [118, 110, 105, 115, 32, 115, 117, 98, 110, 101, 116]) = false := (HT.out [118, 110, 105, 115] [115, 117, 98, 110, 101, 116] (by decide) (by decide)).trans (decide_eq_false e3)
   have p3 : ¬ S.toList = [118, 110, 105, 115, 32, 115, 117, 98, 110, 101, 116] := by simpa using q3
   have q4 : (S.toList == [98, 105, 110, 100, 105, 110, 103, 115, 32, 104, 111, 115, 116]) = false := (HT.out [98, 105, 110, 100, 105, 110, 103, 115] [104, 111, 115, 116] (by decide) (by decide)).trans (decide_eq_false e4)
   have p4 : ¬ S.toList = [98, 105, 110, 100, 105, 110, 103, 115, 32, 104, 111, 115, 116] := by simpa using q4
   have q5 : (S.toList == [114, 111, 117, 116, 101, 115, 32, 118, 105, 97]) = true := (HT.out [114, 111, 117, 116, 101, 115] [118, 105, 97] (by decide) (by decide)).trans (decide_eq_true e5)
   have p5 : S.toList = [114, 111, 117, 116, 101, 115, 32, 118, 105, 97] := by simpa using q5
   clear HT e0 e1 e2 e3 e4 e5
   go_enter Tryz.func68, Tryz.ntmps68
   go_wp2
   refine bodyPost_ret (v := thirdRet (tName, true, true)) (by simp [results, Tryz.results68, go_sem, thirdRet, tName]) rfl ?_
   exact ⟨by rw [HV.out], Below.refl _ _⟩
 by_cases e6 : a = wBind ∧ c = wMac
 · have HV : Hid (thirdB a c = (tMac, true, true)) := by show _ = _; rw [e6.1, e6.2, third_bind_wMac]
   have q0 : (S.toList == [104, 111, 115, 116, 115, 32, 105, 112]) = false := (HT.out [104, 111, 115, 116, 115] [105, 112] (by decide) (by decide)).trans (decide_eq_false e0)
   have p0 : ¬ S.toList = [104, 111, 115, 116, 115, 32, 105, 112] := by simpa using q0
   have q1 : (S.toList == [104, 111, 115, 116, 115, 32, 109, 97, 99]) = false := (HT.out [104, 111, 115, 116, 115] [109, 97, 99] (by decide) (by decide)).trans (decide_eq_false e1)
   have p1 : ¬ S.toList = [104, 111, 115, 116, 115, 32, 109, 97, 99] := by simpa using q1
   have q2 : (S.toList == [104, 111, 115, 116, 115, 32, 118, 110, 105, 115]) = false := (HT.out [104, 111, 115, 116, 115] [118, 110, 105, 115] (by decide) (by decide)).trans (decide_eq_false e2)
   have p2 : ¬ S.toList = [104, 111, 115, 116, 115, 32, 118, 110, 105, 115] := by simpa using q2
   have q3 : (S.toList == [118, 110, 105, 115, 32, 115, 117, 98, 110, 101, 116]) = false := (HT.out [118, 110, 105, 115] [115, 117, 98, 110, 101, 116] (by decide) (by decide)).trans (decide_eq_false e3)
   have p3 : ¬ S.toList = [118, 110, 105, 115, 32, 115, 117, 98, 110, 101, 116] := by simpa using q3
   have q4 : (S.toList == [98, 105, 110, 100, 105, 110, 103, 115, 32, 104, 111, 115, 116]) = false := (HT.out [98, 105, 110, 100, 105, 110, 103, 115] [104, 111, 115, 116] (by decide) (by decide)).trans (decide_eq_false e4)
   have p4 : ¬ S.toList = [98, 105, 110, 100, 105, 110, 103, 115, 32, 104, 111, 115, 116] := by simpa using q4
   have q5 : (S.toList == [114, 111, 117, 116, 101, 115, 32, 118, 105, 97]) = false := (HT.out [114, 111, 117, 116, 101, 115] [118, 105, 97] (by decide) (by decide)).trans (decide_eq_false e5)
   have p5 : ¬ S.toList = [114, 111, 117, 116, 101, 115, 32, 118, 105, 97] := by simpa using q5
   have q6 : (S.toList == [98, 105, 110, 100, 105, 110, 103, 115, 32, 109, 97, 99]) = true := (HT.out [98, 105, 110, 100, 105, 110, 103, 115] [109, 97, 99] (by decide) (by decide)).trans (decide_eq_true e6)
   have p6 : S.toList = [98, 105, 110, 100, 105, 110, 103, 115, 32, 109, 97, 99] := by simpa using q6
   clear HT e0 e1 e2 e3 e4 e5 e6
   go_enter Tryz.func68, Tryz.ntmps68
   go_wp2
   refine bodyPost_ret (v := thirdRet (tMac, true, true)) (by simp [results, Tryz.results68, go_sem, thirdRet, tMac]) rfl ?_
   exact ⟨by rw [HV.out], Below.refl _ _⟩
 by_cases e7 : a = wBind ∧ c = wVni
 · have HV : Hid (thirdB a c = (tVni, true, true)) := by show _ = _; rw [e7.1, e7.2, third_bind_wVni]
   have q0 : (S.toList == [104, 111, 115, 116, 115, 32, 105, 112]) = false := (HT.out [104, 111, 115, 116, 115] [105, 112] (by decide) (by decide)).trans (decide_eq_false e0)
   have p0 : ¬ S.toList = [104, 111, 115, 116, 115, 32, 105, 112] := by simpa using q0
   have q1 : (S.toList == [104, 111, 115, 116, 115, 32, 109, 97, 99]) = false := (HT.out [104, 111, 115, 116, 115] [109, 97, 99] (by decide) (by decide)).trans (decide_eq_false e1)
   have p1 : ¬ S.toList = [104, 111, 115, 116, 115, 32, 109, 97, 99] := by simpa using q1
   have q2 : (S.toList == [104, 111, 115, 116, 115, 32, 118, 110, 105, 115]) = false := (HT.out [104, 111, 115, 116, 115] [118, 110, 105, 115] (by decide) (by decide)).trans (decide_eq_false e2)
   have p2 : ¬ S.toList = [104, 111, 115, 116, 115, 32, 118, 110, 105, 115] := by simpa using q2
   have q3 : (S.toList == [118, 110, 105, 115, 32, 115, 117, 98, 110, 101, 116]) = false := (HT.out [118, 110, 105, 115] [115, 117, 98, 110, 101, 116] (by decide) (by decide)).trans (decide_eq_false e3)
   have p3 : ¬ S.toList = [118, 110, 105, 115, 32, 115, 117, 98, 110, 101, 116] := by simpa using q3
   have q4 : (S.toList == [98, 105, 110, 100, 105, 110, 103, 115, 32, 104, 111, 115, 116]) = false := (HT.out [98, 105, 110, 100, 105, 110, 103, 115] [104, 111, 115, 116] (by decide) (by decide)).trans (decide_eq_false e4)
   have p4 : ¬ S.toList = [98, 105, 110, 100, 105, 110, 103, 115, 32, 104, 111, 115, 116] := by simpa using q4
   have q5 : (S.toList == [114, 111, 117, 116, 101, 115, 32, 118, 105, 97]) = false := (HT.out [114, 111, 117, 116, 101, 115] [118, 105, 97] (by decide) (by decide)).trans (decide_eq_false e5)
   have p5 : ¬ S.toList = [114, 111, 117, 116, 101, 115, 32, 118, 105, 97] := by simpa using q5
   have q6 : (S.toList == [98, 105, 110, 100, 105, 110, 103, 115, 32, 109, 97, 99]) = false := (HT.out [98, 105, 110, 100, 105, 110, 103, 115] [109, 97, 99] (by decide) (by decide)).trans (decide_eq_false e6)
   have p6 : ¬ S.toList = [98, 105, 110, 100, 105, 110, 103, 115, 32, 109, 97, 99] := by simpa using q6
   have q7 : (S.toList == [98, 105, 110, 100, 105, 110, 103, 115, 32, 118, 110, 105]) = true := (HT.out [98, 105, 110, 100, 105, 110, 103, 115] [118, 110, 105] (by decide) (by decide)).trans (decide_eq_true e7)
   have p7 : S.toList = [98, 105, 110, 100, 105, 110, 103, 115, 32, 118, 110, 105] := by simpa using q7
   clear HT e0 e1 e2 e3 e4 e5 e6 e7
   go_enter Tryz.func68, Tryz.ntmps68
   go_wp2
   refine bodyPost_ret (v := thirdRet (tVni, true, true)) (by simp [results, Tryz.results68, go_sem, thirdRet, tVni]) rfl ?_
   exact ⟨by rw [HV.out], Below.refl _ _⟩
 by_cases e8 : a = wRoutes ∧ c = wMetric
 · have HV : Hid (thirdB a c = (tMetric, true, false)) := by show _ = _; rw [e8.1, e8.2, third_routes_wMetric]
   have q0 : (S.toList == [104, 111, 115, 116, 115, 32, 105, 112]) = false := (HT.out [104, 111, 115, 116, 115] [105, 112] (by decide) (by decide)).trans (decide_eq_false e0)
   have p0 : ¬ S.toList = [104, 111, 115, 116, 115, 32, 105, 112] := by simpa using q0
   have q1 : (S.toList == [104, 111, 115, 116, 115, 32, 109, 97, 99]) = false := (HT.out [104, 111, 115, 116, 115] [109, 97, 99] (by decide) (by decide)).trans (decide_eq_false e1)
   have p1 : ¬ S.toList = [104, 111, 115, 116, 115, 32, 109, 97, 99] := by simpa using q1
   have q2 : (S.toList == [104, 111, 115, 116, 115, 32, 118, 110, 105, 115]) = false := (HT.out [104, 111, 115, 116, 115] [118, 110, 105, 115] (by decide) (by decide)).trans (decide_eq_false e2)
   have p2 : ¬ S.toList = [104, 111, 115, 116, 115, 32, 118, 110, 105, 115] := by simpa using q2
   have q3 : (S.toList == [118, 110, 105, 115, 32, 115, 117, 98, 110, 101, 116]) = false := (HT.out [118, 110, 105, 115] [115, 117, 98, 110, 101, 116] (by decide) (by decide)).trans (decide_eq_false e3)
   have p3 : ¬ S.toList = [118, 110, 105, 115, 32, 115, 117, 98, 110, 101, 116] := by simpa using q3
   have q4 : (S.toList == [98, 105, 110, 100, 105, 110, 103, 115, 32, 104, 111, 115, 116]) = false := (HT.out [98, 105, 110, 100, 105, 110, 103, 115] [104, 111, 115, 116] (by decide) (by decide)).trans (decide_eq_false e4)
   have p4 : ¬ S.toList = [98, 105, 110, 100, 105, 110, 103, 115, 32, 104, 111, 115, 116] := by simpa using q4
   have q5 : (S.toList == [114, 111, 117, 116, 101, 115, 32, 118, 105, 97]) = false := (HT.out [114, 111, 117, 116, 101, 115] [118, 105, 97] (by decide) (by decide)).trans (decide_eq_false e5)
   have p5 : ¬ S.toList = [114, 111, 117, 116, 101, 115, 32, 118, 105, 97] := by simpa using q5
   have q6 : (S.toList == [98, 105, 110, 100, 105, 110, 103, 115, 32, 109, 97, 99]) = false := (HT.out [98, 105, 110, 100, 105, 110, 103, 115] [109, 97, 99] (by decide) (by decide)).trans (decide_eq_false e6)
   have p6 : ¬ S.toList = [98, 105, 110, 100, 105, 110, 103, 115, 32, 109, 97, 99] := by simpa using q6
   have q7 : (S.toList == [98, 105, 110, 100, 105, 110, 103, 115, 32, 118, 110, 105]) = false := (HT.out [98, 105, 110, 100, 105, 110, 103, 115] [118, 110, 105] (by decide) (by decide)).trans (decide_eq_false e7)
   have p7 : ¬ S.toList = [98, 105, 110, 100, 105, 110, 103, 115, 32, 118, 110, 105] := by simpa using q7
   have q8 : (S.toList == [114, 111, 117, 116, 101, 115, 32, 109, 101, 116, 114, 105, 99]) = true := (HT.out [114, 111, 117, 116, 101, 115] [109, 101, 116, 114, 105, 99] (by decide) (by decide)).trans (decide_eq_true e8)
   have p8 : S.toList = [114, 111, 117, 116, 101, 115, 32, 109, 101, 116, 114, 105, 99] := by simpa using q8
   clear HT e0 e1 e2 e3 e4 e5 e6 e7 e8
   go_enter Tryz.func68, Tryz.ntmps68
   go_wp2
   refine bodyPost_ret (v := thirdRet (tMetric, true, false)) (by simp [results, Tryz.results68, go_sem, thirdRet, tMetric]) rfl ?_
   exact ⟨by rw [HV.out], Below.refl _ _⟩
 by_cases e9 : a = wPolicy ∧ c = wAction
 · have HV : Hid (thirdB a c = (tAction, true, true)) := by show _ = _; rw [e9.1, e9.2, third_policy_wAction]
   have q0 : (S.toList == [104, 111, 115, 116, 115, 32, 105, 112]) = false := (HT.out [104, 111, 115, 116, 115] [105, 112] (by decide) (by decide)).trans (decide_eq_false e0)
   have p0 : ¬ S.toList = [104, 111, 115, 116, 115, 32, 105, 112] := by simpa using q0
   have q1 : (S.toList == [104, 111, 115, 116, 115, 32, 109, 97, 99]) = false := (HT.out [104, 111, 115, 116, 115] [109, 97, 99] (by decide) (by decide)).trans (decide_eq_false e1)
   have p1 : ¬ S.toList = [104, 111, 115, 116, 115, 32, 109, 97, 99] := by simpa using q1
   have q2 : (S.toList == [104, 111, 115, 116, 115, 32, 118, 110, 105, 115]) = false := (HT.out [104, 111, 115, 116, 115] [118, 110, 105, 115] (by decide) (by decide)).trans (decide_eq_false e2)
   have p2 : ¬ S.toList = [104, 111, 115, 116, 115, 32, 118, 110, 105, 115] := by simpa using q2
   have q3 : (S.toList == [118, 110, 105, 115, 32, 115, 117, 98, 110, 101, 116]) = false := (HT.out [118, 110, 105, 115] [115, 117, 98, 110, 101, 116] (by decide) (by decide)).trans (decide_eq_false e3)
   have p3 : ¬ S.toList = [118, 110, 105, 115, 32, 115, 117, 98, 110, 101, 116] := by simpa using q3
   have q4 : (S.toList == [98, 105, 110, 100, 105, 110, 103, 115, 32, 104, 111, 115, 116]) = false := (HT.out [98, 105, 110, 100, 105, 110, 103, 115] [104, 111, 115, 116] (by decide) (by decide)).trans (decide_eq_false e4)
   have p4 : ¬ S.toList = [98, 105, 110, 100, 105, 110, 103, 115, 32, 104, 111, 115, 116] := by simpa using q4
   have q5 : (S.toList == [114, 111, 117, 116, 101, 115, 32, 118, 105, 97]) = false := (HT.out [114, 111, 117, 116, 101, 115] [118, 105, 97] (by decide) (by decide)).trans (decide_eq_false e5)
   have p5 : ¬ S.toList = [114, 111, 117, 116, 101, 115, 32, 118, 105, 97] := by simpa using q5
   have q6 : (S.toList == [98, 105, 110, 100, 105, 110, 103, 115, 32, 109, 97, 99]) = false := (HT.out [98, 105, 110, 100, 105, 110, 103, 115] [109, 97, 99] (by decide) (by decide)).trans (decide_eq_false e6)
   have p6 : ¬ S.toList = [98, 105, 110, 100, 105, 110, 103, 115, 32, 109, 97, 99] := by simpa using q6
   have q7 : (S.toList == [98, 105, 110, 100, 105, 110, 103, 115, 32, 118, 110, 105]) = false := (HT.out [98, 105, 110, 100, 105, 110, 103, 115] [118, 110, 105] (by decide) (by decide)).trans (decide_eq_false e7)
   have p7 : ¬ S.toList = [98, 105, 110, 100, 105, 110, 103, 115, 32, 118, 110, 105] := by simpa using q7
   have q8 : (S.toList == [114, 111, 117, 116, 101, 115, 32, 109, 101, 116, 114, 105, 99]) = false := (HT.out [114, 111, 117, 116, 101, 115] [109, 101, 116, 114, 105, 99] (by decide) (by decide)).trans (decide_eq_false e8)
   have p8 : ¬ S.toList = [114, 111, 117, 116, 101, 115, 32, 109, 101, 116, 114, 105, 99] := by simpa using q8
   have q9 : (S.toList == [112, 111, 108, 105, 99, 121, 32, 97, 99, 116, 105, 111, 110]) = true := (HT.out [112, 111, 108, 105, 99, 121] [97, 99, 116, 105, 111, 110] (by decide) (by decide)).trans (decide_eq_true e9)
   have p9 : S.toList = [112, 111, 108, 105, 99, 121, 32, 97, 99, 116, 105, 111, 110] := by simpa using q9
   clear HT e0 e1 e2 e3 e4 e5 e6 e7 e8 e9
   go_enter Tryz.func68, Tryz.ntmps68
   go_wp2
   refine bodyPost_ret (v := thirdRet (tAction, true, true)) (by simp [results, Tryz.results68, go_sem, thirdRet, tAction]) rfl ?_
   exact ⟨by rw [HV.out], Below.refl _ _⟩
 by_cases e10 : a = wPolicy ∧ c = wFrom
 · have HV : Hid (thirdB a c = (tPrefix, true, false)) := by show _ = _; rw [e10.1, e10.2, third_policy_wFrom]
   have q0 : (S.toList == [104, 111, 115, 116, 115, 32, 105, 112]) = false := (HT.out [104, 111, 115, 116, 115] [105, 112] (by decide) (by decide)).trans (decide_eq_false e0)
   have p0 : ¬ S.toList = [104, 111, 115, 116, 115, 32, 105, 112] := by simpa using q0
   have q1 : (S.toList == [104, 111, 115, 116, 115, 32, 109, 97, 99]) = false := (HT.out [104, 111, 115, 116, 115] [109, 97, 99] (by decide) (by decide)).trans (decide_eq_false e1)
   have p1 : ¬ S.toList = [104, 111, 115, 116, 115, 32, 109, 97, 99] := by simpa using q1
   have q2 : (S.toList == [104, 111, 115, 116, 115, 32, 118, 110, 105, 115]) = false := (HT.out [104, 111, 115, 116, 115] [118, 110, 105, 115] (by decide) (by decide)).trans (decide_eq_false e2)
   have p2 : ¬ S.toList = [104, 111, 115, 116, 115, 32, 118, 110, 105, 115] := by simpa using q2
   have q3 : (S.toList == [118, 110, 105, 115, 32, 115, 117, 98, 110, 101, 116]) = false := (HT.out [118, 110, 105, 115] [115, 117, 98, 110, 101, 116] (by decide) (by decide)).trans (decide_eq_false e3)
   have p3 : ¬ S.toList = [118, 110, 105, 115, 32, 115, 117, 98, 110, 101, 116] := by simpa using q3
   have q4 : (S.toList == [98, 105, 110, 100, 105, 110, 103, 115, 32, 104, 111, 115, 116]) = false := (HT.out [98, 105, 110, 100, 105, 110, 103, 115] [104, 111, 115, 116] (by decide) (by decide)).trans (decide_eq_false e4)
   have p4 : ¬ S.toList = [98, 105, 110, 100, 105, 110, 103, 115, 32, 104, 111, 115, 116] := by simpa using q4
   have q5 : (S.toList == [114, 111, 117, 116, 101, 115, 32, 118, 105, 97]) = false := (HT.out [114, 111, 117, 116, 101, 115] [118, 105, 97] (by decide) (by decide)).trans (decide_eq_false e5)
   have p5 : ¬ S.toList = [114, 111, 117, 116, 101, 115, 32, 118, 105, 97] := by simpa using q5
   have q6 : (S.toList == [98, 105, 110, 100, 105, 110, 103, 115, 32, 109, 97, 99]) = false := (HT.out [98, 105, 110, 100, 105, 110, 103, 115] [109, 97, 99] (by decide) (by decide)).trans (decide_eq_false e6)
   have p6 : ¬ S.toList = [98, 105, 110, 100, 105, 110, 103, 115, 32, 109, 97, 99] := by simpa using q6
   have q7 : (S.toList == [98, 105, 110, 100, 105, 110, 103, 115, 32, 118, 110, 105]) = false := (HT.out [98, 105, 110, 100, 105, 110, 103, 115] [118, 110, 105] (by decide) (by decide)).trans (decide_eq_false e7)
   have p7 : ¬ S.toList = [98, 105, 110, 100, 105, 110, 103, 115, 32, 118, 110, 105] := by simpa using q7
   have q8 : (S.toList == [114, 111, 117, 116, 101, 115, 32, 109, 101, 116, 114, 105, 99]) = false := (HT.out [114, 111, 117, 116, 101, 115] [109, 101, 116, 114, 105, 99] (by decide) (by decide)).trans (decide_eq_false e8)
   have p8 : ¬ S.toList = [114, 111, 117, 116, 101, 115, 32, 109, 101, 116, 114, 105, 99] := by simpa using q8
   have q9 : (S.toList == [112, 111, 108, 105, 99, 121, 32, 97, 99, 116, 105, 111, 110]) = false := (HT.out [112, 111, 108, 105, 99, 121] [97, 99, 116, 105, 111, 110] (by decide) (by decide)).trans (decide_eq_false e9)
   have p9 : ¬ S.toList = [112, 111, 108, 105, 99, 121, 32, 97, 99, 116, 105, 111, 110] := by simpa using q9
   have q10 : (S.toList == [112, 111, 108, 105, 99, 121, 32, 102, 114, 111, 109]) = true := (HT.out [112, 111, 108, 105, 99, 121] [102, 114, 111, 109] (by decide) (by decide)).trans (decide_eq_true e10)
   have p10 : S.toList = [112, 111, 108, 105, 99, 121, 32, 102, 114, 111, 109] := by simpa using q10
   clear HT e0 e1 e2 e3 e4 e5 e6 e7 e8 e9 e10
   go_enter Tryz.func68, Tryz.ntmps68
   go_wp2
   refine bodyPost_ret (v := thirdRet (tPrefix, true, false)) (by simp [results, Tryz.results68, go_sem, thirdRet, tPrefix]) rfl ?_
   exact ⟨by rw [HV.out], Below.refl _ _⟩
 by_cases e11 : a = wPolicy ∧ c = wTo
 · have HV : Hid (thirdB a c = (tPrefix, true, false)) := by show _ = _; rw [e11.1, e11.2, third_policy_wTo]
   have q0 : (S.toList == [104, 111, 115, 116, 115, 32, 105, 112]) = false := (HT.out [104, 111, 115, 116, 115] [105, 112] (by decide) (by decide)).trans (decide_eq_false e0)
   have p0 : ¬ S.toList = [104, 111, 115, 116, 115, 32, 105, 112] := by simpa using q0
   have q1 : (S.toList == [104, 111, 115, 116, 115, 32, 109, 97, 99]) = false := (HT.out [104, 111, 115, 116, 115] [109, 97, 99] (by decide) (by decide)).trans (decide_eq_false e1)
   have p1 : ¬ S.toList = [104, 111, 115, 116, 115, 32, 109, 97, 99] := by simpa using q1
   have q2 : (S.toList == [104, 111, 115, 116, 115, 32, 118, 110, 105, 115]) = false := (HT.out [104, 111, 115, 116, 115] [118, 110, 105, 115] (by decide) (by decide)).trans (decide_eq_false e2)
   have p2 : ¬ S.toList = [104, 111, 115, 116, 115, 32, 118, 110, 105, 115] := by simpa using q2
   have q3 : (S.toList == [118, 110, 105, 115, 32, 115, 117, 98, 110, 101, 116]) = false := (HT.out [118, 110, 105, 115] [115, 117, 98, 110, 101, 116] (by decide) (by decide)).trans (decide_eq_false e3)
   have p3 : ¬ S.toList = [118, 110, 105, 115, 32, 115, 117, 98, 110, 101, 116] := by simpa using q3
   have q4 : (S.toList == [98, 105, 110, 100, 105, 110, 103, 115, 32, 104, 111, 115, 116]) = false := (HT.out [98, 105, 110, 100, 105, 110, 103, 115] [104, 111, 115, 116] (by decide) (by decide)).trans (decide_eq_false e4)
   have p4 : ¬ S.toList = [98, 105, 110, 100, 105, 110, 103, 115, 32, 104, 111, 115, 116] := by simpa using q4
   have q5 : (S.toList == [114, 111, 117, 116, 101, 115, 32, 118, 105, 97]) = false := (HT.out [114, 111, 117, 116, 101, 115] [118, 105, 97] (by decide) (by decide)).trans (decide_eq_false e5)
   have p5 : ¬ S.toList = [114, 111, 117, 116, 101, 115, 32, 118, 105, 97] := by simpa using q5
   have q6 : (S.toList == [98, 105, 110, 100, 105, 110, 103, 115, 32, 109, 97, 99]) = false := (HT.out [98, 105, 110, 100, 105, 110, 103, 115] [109, 97, 99] (by decide) (by decide)).trans (decide_eq_false e6)
   have p6 : ¬ S.toList = [98, 105, 110, 100, 105, 110, 103, 115, 32, 109, 97, 99] := by simpa using q6
   have q7 : (S.toList == [98, 105, 110, 100, 105, 110, 103, 115, 32, 118, 110, 105]) = false := (HT.out [98, 105, 110, 100, 105, 110, 103, 115] [118, 110, 105] (by decide) (by decide)).trans (decide_eq_false e7)
   have p7 : ¬ S.toList = [98, 105, 110, 100, 105, 110, 103, 115, 32, 118, 110, 105] := by simpa using q7
   have q8 : (S.toList == [114, 111, 117, 116, 101, 115, 32, 109, 101, 116, 114, 105, 99]) = false := (HT.out [114, 111, 117, 116, 101, 115] [109, 101, 116, 114, 105, 99] (by decide) (by decide)).trans (decide_eq_false e8)
   have p8 : ¬ S.toList = [114, 111, 117, 116, 101, 115, 32, 109, 101, 116, 114, 105, 99] := by simpa using q8
   have q9 : (S.toList == [112, 111, 108, 105, 99, 121, 32, 97, 99, 116, 105, 111, 110]) = false := (HT.out [112, 111, 108, 105, 99, 121] [97, 99, 116, 105, 111, 110] (by decide) (by decide)).trans (decide_eq_false e9)
   have p9 : ¬ S.toList = [112, 111, 108, 105, 99, 121, 32, 97, 99, 116, 105, 111, 110] := by simpa using q9
   have q10 : (S.toList == [112, 111, 108, 105, 99, 121, 32, 102, 114, 111, 109]) = false := (HT.out [112, 111, 108, 105, 99, 121] [102, 114, 111, 109] (by decide) (by decide)).trans (decide_eq_false e10)
   have p10 : ¬ S.toList = [112, 111, 108, 105, 99, 121, 32, 102, 114, 111, 109] := by simpa using q10
   have q11 : (S.toList == [112, 111, 108, 105, 99, 121, 32, 116, 111]) = true := (HT.out [112, 111, 108, 105, 99, 121] [116, 111] (by decide) (by decide)).trans (decide_eq_true e11)
   have p11 : S.toList = [112, 111, 108, 105, 99, 121, 32, 116, 111] := by simpa using q11
   clear HT e0 e1 e2 e3 e4 e5 e6 e7 e8 e9 e10 e11
   go_enter Tryz.func68, Tryz.ntmps68
   go_wp2
   refine bodyPost_ret (v := thirdRet (tPrefix, true, false)) (by simp [results, Tryz.results68, go_sem, thirdRet, tPrefix]) rfl ?_
   exact ⟨by rw [HV.out], Below.refl _ _⟩
 have HV : Hid (thirdB a c = (⟨#[]⟩, false, false)) := by
  show _ = _
  unfold thirdB
  rw [if_neg e0, if_neg e1, if_neg e2, if_neg e3, if_neg (not_or.2 ⟨e4, e5⟩), if_neg e6, if_neg e7, if_neg e8, if_neg e9, if_neg (not_or.2 ⟨e10, e11⟩)]
 have q0 : (S.toList == [104, 111, 115, 116, 115, 32, 105, 112]) = false := (HT.out [104, 111, 115, 116, 115] [105, 112] (by decide) (by decide)).trans (decide_eq_false e0)
 have p0 : ¬ S.toList = [104, 111, 115, 116, 115, 32, 105, 112] := by simpa using q0
 have q1 : (S.toList == [104, 111, 115, 116, 115, 32, 109, 97, 99]) = false := (HT.out [104, 111, 115, 116, 115] [109, 97, 99] (by decide) (by decide)).trans (decide_eq_false e1)
 have p1 : ¬ S.toList = [104, 111, 115, 116, 115, 32, 109, 97, 99] := by simpa using q1
 have q2 : (S.toList == [104, 111, 115, 116, 115, 32, 118, 110, 105, 115]) = false := (HT.out [104, 111, 115, 116, 115] [118, 110, 105, 115] (by decide) (by decide)).trans (decide_eq_false e2)
 have p2 : ¬ S.toList = [104, 111, 115, 116, 115, 32, 118, 110, 105, 115] := by simpa using q2
 have q3 : (S.toList == [118, 110, 105, 115, 32, 115, 117, 98, 110, 101, 116]) = false := (HT.out [118, 110, 105, 115] [115, 117, 98, 110, 101, 116] (by decide) (by decide)).trans (decide_eq_false e3)
 have p3 : ¬ S.toList = [118, 110, 105, 115, 32, 115, 117, 98, 110, 101, 116] := by simpa using q3
 have q4 : (S.toList == [98, 105, 110, 100, 105, 110, 103, 115, 32, 104, 111, 115, 116]) = false := (HT.out [98, 105, 110, 100, 105, 110, 103, 115] [104, 111, 115, 116] (by decide) (by decide)).trans (decide_eq_false e4)
 have p4 : ¬ S.toList = [98, 105, 110, 100, 105, 110, 103, 115, 32, 104, 111, 115, 116] := by simpa using q4
 have q5 : (S.toList == [114, 111, 117, 116, 101, 115, 32, 118, 105, 97]) = false := (HT.out [114, 111, 117, 116, 101, 115] [118, 105, 97] (by decide) (by decide)).trans (decide_eq_false e5)
 have p5 : ¬ S.toList = [114, 111, 117, 116, 101, 115, 32, 118, 105, 97] := by simpa using q5
 have q6 : (S.toList == [98, 105, 110, 100, 105, 110, 103, 115, 32, 109, 97, 99]) = false := (HT.out [98, 105, 110, 100, 105, 110, 103, 115] [109, 97, 99] (by decide) (by decide)).trans (decide_eq_false e6)
 have p6 : ¬ S.toList = [98, 105, 110, 100, 105, 110, 103, 115, 32, 109, 97, 99] := by simpa using q6
 have q7 : (S.toList == [98, 105, 110, 100, 105, 110, 103, 115, 32, 118, 110, 105]) = false := (HT.out [98, 105, 110, 100, 105, 110, 103, 115] [118, 110, 105] (by decide) (by decide)).trans (decide_eq_false e7)
 have p7 : ¬ S.toList = [98, 105, 110, 100, 105, 110, 103, 115, 32, 118, 110, 105] := by simpa using q7
 have q8 : (S.toList == [114, 111, 117, 116, 101, 115, 32, 109, 101, 116, 114, 105, 99]) = false := (HT.out [114, 111, 117, 116, 101, 115] [109, 101, 116, 114, 105, 99] (by decide) (by decide)).trans (decide_eq_false e8)
 have p8 : ¬ S.toList = [114, 111, 117, 116, 101, 115, 32, 109, 101, 116, 114, 105, 99] := by simpa using q8
 have q9 : (S.toList == [112, 111, 108, 105, 99, 121, 32, 97, 99, 116, 105, 111, 110]) = false := (HT.out [112, 111, 108, 105, 99, 121] [97, 99, 116, 105, 111, 110] (by decide) (by decide)).trans (decide_eq_false e9)
 have p9 : ¬ S.toList = [112, 111, 108, 105, 99, 121, 32, 97, 99, 116, 105, 111, 110] := by simpa using q9
 have q10 : (S.toList == [112, 111, 108, 105, 99, 121, 32, 102, 114, 111, 109]) = false := (HT.out [112, 111, 108, 105, 99, 121] [102, 114, 111, 109] (by decide) (by decide)).trans (decide_eq_false e10)
 have p10 : ¬ S.toList = [112, 111, 108, 105, 99, 121, 32, 102, 114, 111, 109] := by simpa using q10
 have q11 : (S.toList == [112, 111, 108, 105, 99, 121, 32, 116, 111]) = false := (HT.out [112, 111, 108, 105, 99, 121] [116, 111] (by decide) (by decide)).trans (decide_eq_false e11)
 have p11 : ¬ S.toList = [112, 111, 108, 105, 99, 121, 32, 116, 111] := by simpa using q11
 clear HT e0 e1 e2 e3 e4 e5 e6 e7 e8 e9 e10 e11
 go_enter Tryz.func68, Tryz.ntmps68
 go_wp2
 refine bodyPost_ret (v := thirdRet (⟨#[]⟩, false, false)) (by simp [results, Tryz.results68, go_sem, thirdRet]) rfl ?_
 exact ⟨by rw [HV.out], Below.refl _ _⟩
end Go.Proofs.YtjdknhalcpkeaaaGreatDoor
