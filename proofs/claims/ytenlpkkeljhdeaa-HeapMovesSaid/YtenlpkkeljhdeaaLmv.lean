/- Walk: tympanlaw11.HeapMoves. -/
import Derived.Test.YtenlpkkeljhdeaaLpt
namespace Go.Proofs.Ytenlpkkeljhdeaa
open Go.RowKit

theorem ext_toList (s : ByteArray) (i j : Nat) : (s.extract i j).toList = (s.toList.drop i).take (j - i) := by
  rw [ByteArray.toList_eq, ByteArray.toList_eq, ByteArray.data_extract]
  simp [List.extract_eq_take_drop]
theorem app_toList (s t : ByteArray) : (s ++ t).toList = s.toList ++ t.toList := by
  rw [ByteArray.toList_eq, ByteArray.toList_eq, ByteArray.toList_eq, ByteArray.data_append]; simp
theorem mk_toList (l : List UInt8) : (⟨l.toArray⟩ : ByteArray).toList = l := by rw [ByteArray.toList_eq]
theorem moved_eq (s : ByteArray) (a m b : Int) (ha : 0 ≤ a) (hm : 0 ≤ m) (hb : 0 ≤ b) (h1 : a + m ≤ s.size) (h2 : b + m ≤ s.size) (t : ByteArray) (ht : t = ⟨(splice s.toList b.toNat ((s.toList.drop a.toNat).take m.toNat)).toArray⟩) :
    (t.toList == (s.extract 0 b.toNat ++ s.extract a.toNat (a + m).toNat ++ s.extract (b + m).toNat s.size).toList) = true := by
  have hl := size_toList s
  subst ht
  rw [mk_toList, app_toList, app_toList, ext_toList, ext_toList, ext_toList, beq_iff_eq]
  unfold splice
  have e1 : ((s.toList.drop a.toNat).take m.toNat).length = m.toNat := by simp; omega
  rw [e1, List.drop_zero, Nat.sub_zero, show (a + m).toNat - a.toNat = m.toNat by omega, show (b + m).toNat = b.toNat + m.toNat by omega, List.take_of_length_le (l := s.toList.drop (b.toNat + m.toNat)) (by simp; omega), List.append_assoc]

set_option maxRecDepth 100000 in
set_option maxHeartbeats 4000000 in
theorem heapMoves_any (s : ByteArray) (a1 a2 a3 : Int) (ws : s.size ≤ maxLen) (l1 : 0 ≤ a1) (u1 : a1 < 256) (l2 : 0 ≤ a2) (u2 : a2 < 256) (l3 : 0 ≤ a3) (u3 : a3 < 256) (w : World) :
   Calls Try.prog 6 #[.string s, .int .u8 a1, .int .u8 a2, .int .u8 a3] w fun e w' => e = .returned (.bool true) ∧ Chg NoB w w' := by
  obtain ⟨k, hk⟩ : ∃ k : Int, (s.size : Int) = k := ⟨_, rfl⟩
  have kk : k ≤ 9223372036854775807 := by simp only [maxLen] at ws; omega
  have k0 : 0 ≤ k := by omega
  by_cases he : k = 0
  · have hb : (k == 0) = true := by simp [he]
    clear he
    go_enter Try.func6, Try.ntmps6
    go_wp2_with fail
    refine (known11_any w).mono ?_
    rintro e w0 ⟨rfl, X0⟩
    go_wp2
    go_ret
    exact ⟨rfl, X0⟩
  have hb : (k == 0) = false := by simpa using he
  by_cases hg : 200 < k
  · go_enter Try.func6, Try.ntmps6
    go_wp2_with fail
    refine (known11_any w).mono ?_
    rintro e w0 ⟨rfl, X0⟩
    go_wp2
    go_ret
    exact ⟨rfl, X0⟩
  obtain ⟨a, ha⟩ : ∃ a, a1 % k = a := ⟨_, rfl⟩
  have p1 : 0 ≤ a := ha ▸ Int.emod_nonneg _ (by omega)
  have p2 : a < k := ha ▸ Int.emod_lt_of_pos _ (by omega)
  obtain ⟨m, hm⟩ : ∃ m, a2 % (k - a + 1) = m := ⟨_, rfl⟩
  have p3 : 0 ≤ m := hm ▸ Int.emod_nonneg _ (by omega)
  have p4 : m < k - a + 1 := hm ▸ Int.emod_lt_of_pos _ (by omega)
  obtain ⟨b, hbb⟩ : ∃ b, a3 % (k - m + 1) = b := ⟨_, rfl⟩
  have p5 : 0 ≤ b := hbb ▸ Int.emod_nonneg _ (by omega)
  have p6 : b < k - m + 1 := hbb ▸ Int.emod_lt_of_pos _ (by omega)
  have hl : (s.toList.length : Int) = k := by rw [size_toList]; exact hk
  have S1 := string_new s (by omega)
  rw [hk] at S1
  have S2 := part_txt s.toList [] k a m hl (by omega) p1 p3 (by omega)
  have S3 := put_txt s.toList [] k b a m hl (by omega) p1 p3 (by omega) p5 (by omega)
  have hl2 : ((splice s.toList b.toNat ((s.toList.drop a.toNat).take m.toNat)).length : Int) = k := by
    rw [length_splice _ _ _ (by simp; omega)]; exact hl
  have S4 := bytes_all (splice s.toList b.toNat ((s.toList.drop a.toNat).take m.toNat)) [] k hl2 (by omega)
  obtain ⟨t, ht⟩ : ∃ t : ByteArray, (⟨(splice s.toList b.toNat ((s.toList.drop a.toNat).take m.toNat)).toArray⟩ : ByteArray) = t := ⟨_, rfl⟩
  rw [ht] at S4
  generalize hsp : splice s.toList b.toNat ((s.toList.drop a.toNat).take m.toNat) = sp at *
  have n1 : ¬ k = 0 := by omega
  have n2 : ¬ k - a + 1 = 0 := by omega
  have n3 : ¬ k - m + 1 = 0 := by omega
  have HT := Hid.mk' ht
  have HP := Hid.mk' hsp
  clear hl hl2 ht hsp he
  go_enter Try.func6, Try.ntmps6
  go_wp2_with fail
  refine (known11_any w).mono ?_
  rintro e w0 ⟨rfl, X0⟩
  go_wp2_with fail
  refine (new_any w0).mono ?_
  rintro e w1 ⟨rfl, hw1⟩
  have A0 : At w w1 w0.heap.size [] [] := hw1 ▸ At.new X0
  clear hw1
  go_wp2_with fail
  refine (at_string A0 s S1).mono ?_
  rintro e w2 ⟨rfl, A1⟩
  go_wp2_with fail
  refine (at_part (A1.alloc _) _ _ _ S2).mono ?_
  rintro e w3 ⟨rfl, A2⟩
  have R2 := cells_of (A2.box _ (List.mem_cons_self ..))
  have v2 := blk_lt (A2.box _ (List.mem_cons_self ..))
  simp only at v2
  go_wp2_with fail
  refine (at_put (A2.alloc _) _ _ _ S3).mono ?_
  rintro e w4 ⟨rfl, A3⟩
  have R4 := cells_of (A3.box _ (List.mem_cons_of_mem _ (List.mem_cons_self ..)))
  clear R2 v2
  go_wp2_with fail
  refine (at_bytes A3 _ S4).mono ?_
  rintro e w5 ⟨rfl, A5⟩
  have XX := A5.chg
  clear R4 S1 S2 S3 S4 A0 A1 A2 A3 A5 X0
  go_wp2_with fail
  go_quiet (fail)
  go_wp2
  go_ret
  refine ⟨?_, XX.drewN _⟩
  rw [moved_eq s a m b p1 p3 p5 (by omega) (by omega) t (by rw [← HT.out, ← HP.out])]
  rfl
end Go.Proofs.Ytenlpkkeljhdeaa
