/- Walk: tympanlaw11.HeapFull. -/
import Derived.Test.YtfjejlbiapeniaaLpl
namespace Go.Proofs.Ytfjejlbiapeniaa
open Go.RowKit

abbrev emptyT : C := ⟨true, false, false, [], []⟩
theorem full_string (k : Nat) (hk : k < 2000) : stringH (List.replicate k emptyT) ⟨#[]⟩ = (List.replicate (k + 1) emptyT, ⟨8, false, k, 0, 0, ⟨#[]⟩⟩, 0) := by
  have hs : ((⟨#[]⟩ : ByteArray).size) = 0 := rfl
  unfold stringH
  rw [hs, if_neg (by omega), empty_bytes, add_fits _ _ (by simpa using hk) (by rw [used_rep]; simp [C.size])]
  simp [objOf, C.kind, C.size, List.replicate_succ']
theorem full_array : arrayH (List.replicate 2000 emptyT) 0 = (List.replicate 2000 emptyT, O.nil, 5) := by
  unfold arrayH
  rw [if_neg (by decide), if_neg (by decide), add_not _ _ (.inl (by rw [List.length_replicate]; decide))]
theorem full_dict : dictH (List.replicate 2000 emptyT) 0 = (List.replicate 2000 emptyT, O.nil, 5) := by
  unfold dictH
  rw [if_neg (by decide), add_not _ _ (.inl (by rw [List.length_replicate]; decide))]
theorem room_2 (k : Int) (h0 : 0 ≤ k) (h1 : k ≤ 40000) : arrayH [arr k.toNat] (40000 - k + 1) = ([arr k.toNat], O.nil, 5) := by
  unfold arrayH
  by_cases a1 : 40000 < 40000 - k + 1
  · rw [if_pos a1]
  rw [if_neg a1, if_neg (by omega), add_not _ _ (.inr (by rw [arr_size]; simp only [used, List.map_cons, List.map_nil, List.sum_cons, List.sum_nil, arr_size]; omega))]
theorem room_3 (k : Int) (h0 : 0 ≤ k) (h1 : k ≤ 40000) : arrayH [arr k.toNat] (40000 - k) = ([arr k.toNat, arr (40000 - k).toNat], ⟨9, false, 1, 0, 40000 - k, ⟨#[]⟩⟩, 0) := by
  unfold arrayH
  rw [if_neg (by omega), if_neg (by omega), add_fits _ _ (by simp) (by rw [arr_size]; simp only [used, List.map_cons, List.map_nil, List.sum_cons, List.sum_nil, arr_size]; omega)]
  simp [objOf, C.kind, C.size]
  omega
theorem room_u (k : Int) (h0 : 0 ≤ k) (h1 : k ≤ 40000) : used [arr k.toNat, arr (40000 - k).toNat] = 40000 := by
  simp only [used, List.map_cons, List.map_nil, List.sum_cons, List.sum_nil, arr_size]; omega

set_option maxRecDepth 100000 in
set_option maxHeartbeats 4000000 in
theorem heapFull_room (n : Int) (h0 : 0 ≤ n) (h1 : n < 65536) (w : World) :
   Calls Try.prog 6 #[.int .u16 n, .bool false] w fun e w' => e = .returned (.bool true) ∧ Chg NoB w w' := by
  have ek0 : 0 ≤ n % 40001 := by omega
  have ek1 : n % 40001 ≤ 40000 := by omega
  have s1 : wrap64 (40000 - n % 40001) = 40000 - n % 40001 := IntWalk.wrap64_in _ (by omega)
  have s2 : wrap64 (40000 - n % 40001 + 1) = 40000 - n % 40001 + 1 := IntWalk.wrap64_in _ (by omega)
  have R1 := room_1 _ ek0 ek1
  have R2 := room_2 _ ek0 ek1
  have R3 := room_3 _ ek0 ek1
  have RU := room_u _ ek0 ek1
  go_enter Try.func6, Try.ntmps6
  go_wp2_with fail
  refine (known11_any w).mono ?_
  rintro e w0 ⟨rfl, X0⟩
  go_wp2_with fail
  refine (new_any w0).mono ?_
  rintro e w1 ⟨rfl, hw1⟩
  have A0 : At w w1 w0.heap.size [] [] := hw1 ▸ At.new X0
  clear hw1
  go_wp2_with fail
  refine (at_array A0 _ R1).mono ?_
  rintro e w2 ⟨rfl, A1⟩
  go_wp2_with fail
  refine (at_array (A1.alloc _) _ R2).mono ?_
  rintro e w3 ⟨rfl, A2⟩
  go_wp2_with fail
  refine (at_array (A2.alloc _) _ R3).mono ?_
  rintro e w4 ⟨rfl, A3⟩
  go_wp2_with fail
  refine (at_used (A3.alloc _)).mono ?_
  rintro e w5 ⟨rfl, rfl⟩
  rw [RU]
  go_wp2_with fail
  refine (at_cells (A3.alloc _)).mono ?_
  rintro e w6 ⟨rfl, rfl⟩
  go_wp2_with fail
  go_ret
  exact ⟨by simp, (A3.alloc _).chg⟩

/-- Behind k texts: the heap, and what else stays. -/
def FullInv (w : World) (hp : Nat) (k : Nat) (wr : World) : Prop := At w wr hp (List.replicate k emptyT) []
set_option maxRecDepth 100000 in
set_option maxHeartbeats 4000000 in
theorem heapFull_cells (n : Int) (w : World) :
   Calls Try.prog 6 #[.int .u16 n, .bool true] w fun e w' => e = .returned (.bool true) ∧ Chg NoB w w' := by
  go_enter Try.func6, Try.ntmps6
  go_wp2_with fail
  refine (known11_any w).mono ?_
  rintro e w0 ⟨rfl, X0⟩
  go_wp2_with fail
  refine (new_any w0).mono ?_
  rintro e w1 ⟨rfl, hw1⟩
  have A0 : At w w1 w0.heap.size [] [] := hw1 ▸ At.new X0
  clear hw1 X0
  generalize w0.heap.size = hp at *
  go_wp2_with fail
  go_loopw [6] (fun i wr => ∃ k : Nat, k ≤ 2000 ∧ i = .int .i64 k ∧ FullInv w hp k wr) (fun i _ => 2000 - (intOf i).toNat)
  case atStart => exact ⟨0, Nat.zero_le _, rfl, A0⟩
  case round =>
    obtain ⟨k, hk, rfl, hB⟩ := hrel
    by_cases hlt : k < 2000
    · have FK := full_string k hlt
      have hlt' : (k : Int) < 2000 := by omega
      have HB : At w wr hp (List.replicate k emptyT) [] := hB
      clear hB A0
      go_wp2_with fail
      refine (at_string HB _ FK).mono ?_
      rintro e w2 ⟨rfl, A2⟩
      go_wp2_with fail
      go_roundw
      case rel => exact ⟨k + 1, by omega, by go_num, (A2.alloc _).forget⟩
      case measure => simp [intOf]; omega
    · have h2 : k = 2000 := by omega
      subst h2
      have HB : At w wr hp (List.replicate 2000 emptyT) [] := hB
      have FA := full_array
      have FD := full_dict
      have FL : (List.replicate 2000 emptyT).length = 2000 := List.length_replicate
      clear hB A0
      generalize List.replicate 2000 emptyT = LL at *
      go_wp2_with fail
      refine (at_array HB _ FA).mono ?_
      rintro e w2 ⟨rfl, A2⟩
      go_wp2_with fail
      refine (at_dict (A2.alloc _) _ FD).mono ?_
      rintro e w3 ⟨rfl, A3⟩
      go_wp2_with fail
      refine (at_cells (A3.alloc _)).mono ?_
      rintro e w4 ⟨rfl, rfl⟩
      rw [FL]
      go_wp2_with fail
      go_ret
      exact ⟨by simp, (A3.alloc _).chg⟩
theorem heapFull_any (n : Int) (b : Bool) (h0 : 0 ≤ n) (h1 : n < 65536) (w : World) :
   Calls Try.prog 6 #[.int .u16 n, .bool b] w fun e w' => e = .returned (.bool true) ∧ Chg NoB w w' := by
  cases b
  · exact heapFull_room n h0 h1 w
  · exact heapFull_cells n w
end Go.Proofs.Ytfjejlbiapeniaa
