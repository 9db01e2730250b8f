/- Walk: tympanlaw13.SaveBack. -/
import Derived.Test.YtenlpkkeljhdeaaLsv
namespace Go.Proofs.Ytenlpkkeljhdeaa
open Go.RowKit

theorem used_txts (s t : List UInt8) (j : Nat) : used (txt s :: List.replicate j (txt t)) = s.length + j * t.length := by
  have := used_rep (txt t) j
  rw [txt_size] at this
  have e : used (txt s :: List.replicate j (txt t)) = (txt s).size + used (List.replicate j (txt t)) := by simp [used]
  rw [e, this, txt_size]
theorem string_more (s t : ByteArray) (j : Nat) (hs : s.size ≤ 200) (ht : t.size ≤ 200) (hj : j < 5) :
    stringH (txt s.toList :: List.replicate j (txt t.toList)) t = (txt s.toList :: List.replicate (j + 1) (txt t.toList), ⟨8, false, (j : Int) + 1, 0, t.size, ⟨#[]⟩⟩, 0) := by
  unfold stringH
  have hsz := size_toList s
  have htz := size_toList t
  have hm : j * t.toList.length ≤ 5 * 200 := Nat.mul_le_mul (by omega) (by omega)
  rw [if_neg (by omega), add_fits _ _ (by simp; omega) (by rw [used_txts, txt_size]; omega)]
  simp [objOf, C.kind, C.size, size_toList, List.replicate_succ']

/-- Behind j rounds: the heap, the saves, those that were kept first. -/
def BackInv (w : World) (s t : ByteArray) (hp sp b1 b2 b3 : Nat) (o1 o2 o3 : Obj) (j : Nat) (wr : World) : Prop :=
  ∃ (l : List (Int × Nat)) (M : List (Nat × List C)) (g1 g2 : Nat), Num l ∧ l.length = 2 + j ∧ l[0]? = some (1, g1) ∧ l[1]? = some (2, g2) ∧ (g1, [txt s.toList]) ∈ M ∧ (g2, [txt s.toList]) ∈ M ∧
    Ats w wr ((hp, txt s.toList :: List.replicate j (txt t.toList)) :: M) [(sp, svBox l (2 + j)), (b1, o1), (b2, o2), (b3, o3)]

set_option maxRecDepth 100000 in
set_option maxHeartbeats 8000000 in
theorem saveBack_any (s t : ByteArray) (a2 a3 : Int) (ws : s.size ≤ maxLen) (wt : t.size ≤ maxLen) (l2 : 0 ≤ a2) (u2 : a2 < 256) (l3 : 0 ≤ a3) (u3 : a3 < 256) (w : World) :
   Calls Try.prog 9 #[.string s, .string t, .int .u8 a2, .int .u8 a3] w fun e w' => e = .returned (.bool true) ∧ Chg NoB w w' := by
  obtain ⟨k, hk⟩ : ∃ k : Int, (s.size : Int) = k := ⟨_, rfl⟩
  obtain ⟨kt, hkt⟩ : ∃ k : Int, (t.size : Int) = k := ⟨_, rfl⟩
  have kk : k ≤ 9223372036854775807 := by simp only [maxLen] at ws; omega
  have kk' : kt ≤ 9223372036854775807 := by simp only [maxLen] at wt; omega
  have k0 : 0 ≤ k := by omega
  have k0' : 0 ≤ kt := by omega
  by_cases he : k = 0
  · have hb : (k == 0) = true := by simp [he]
    clear he
    go_enter Try.func9, Try.ntmps9
    go_wp2_with fail
    refine (known13_any w).mono ?_
    rintro e w0 ⟨rfl, X0⟩
    go_wp2
    go_ret
    exact ⟨rfl, X0⟩
  have hb : (k == 0) = false := by simpa using he
  by_cases hg : 200 < k
  · go_enter Try.func9, Try.ntmps9
    go_wp2_with fail
    refine (known13_any w).mono ?_
    rintro e w0 ⟨rfl, X0⟩
    go_wp2
    go_ret
    exact ⟨rfl, X0⟩
  have hg' : decide (200 < k) = false := by simpa using hg
  by_cases hgt : 200 < kt
  · go_enter Try.func9, Try.ntmps9
    go_wp2_with fail
    refine (known13_any w).mono ?_
    rintro e w0 ⟨rfl, X0⟩
    go_wp2
    go_ret
    exact ⟨rfl, X0⟩
  obtain ⟨d, hd⟩ : ∃ d, a3 % 5 = d := ⟨_, rfl⟩
  have d0 : 0 ≤ d := by omega
  have d4 : d < 5 := by omega
  have hs200 : s.size ≤ 200 := by omega
  have ht200 : t.size ≤ 200 := by omega
  have S1 := string_new s hs200
  rw [hk] at S1
  go_enter Try.func9, Try.ntmps9
  go_wp2_with fail
  refine (known13_any w).mono ?_
  rintro e w0 ⟨rfl, X0⟩
  go_wp2_with fail
  refine (at_new (Ats.start X0)).mono ?_
  rintro e w1 ⟨hp, rfl, A0⟩
  go_wp2_with fail
  refine (at_snew A0).mono ?_
  rintro e w2 ⟨sp, rfl, A1⟩
  go_wp2_with fail
  refine (at_string A1 s S1).mono ?_
  rintro e w3 ⟨rfl, A2⟩
  have A3 := (A2.alloc (.cells #[.int .i64 8, .bool false, .int .i64 0, .int .i64 0, .int .i64 k, .string ⟨#[]⟩] 29)).perm p1
  clear A2 A1 A0 S1
  go_wp2_with fail
  refine (at_save A3 m0 (by simp) (by omega) (by omega)).mono ?_
  rintro e w4 ⟨rfl, g1, A4⟩
  simp only [List.nil_append, Int.zero_add] at A4
  have A5 := ((A4.order p1).alloc (.cells #[.int .i64 11, .bool false, .int .i64 1, .int .i64 0, .int .i64 0, .string ⟨#[]⟩] 29)).perm p1
  clear A3 A4
  go_wp2_with fail
  refine (at_save A5 m0 (by simp) (by omega) (by omega)).mono ?_
  rintro e w5 ⟨rfl, g2, A6⟩
  simp only [List.cons_append, List.nil_append, show (1 : Int) + 1 = 2 from rfl] at A6
  have A7 := ((A6.order p1).alloc (.cells #[.int .i64 11, .bool false, .int .i64 2, .int .i64 0, .int .i64 0, .string ⟨#[]⟩] 29)).perm p1
  clear A5 A6
  go_wp2_with fail
  generalize w5.alloc (.cells #[.int .i64 11, .bool false, .int .i64 2, .int .i64 0, .int .i64 0, .string ⟨#[]⟩] 29) = w6 at *
  generalize w5.heap.size = b1 at *
  generalize w4.heap.size = b2 at *
  generalize w3.heap.size = b3 at *
  obtain ⟨o1, ho1⟩ : ∃ o1 : Obj, o1 = .cells #[.int .i64 11, .bool false, .int .i64 2, .int .i64 0, .int .i64 0, .string ⟨#[]⟩] 29 := ⟨_, rfl⟩
  obtain ⟨o2, ho2⟩ : ∃ o2 : Obj, o2 = .cells #[.int .i64 11, .bool false, .int .i64 1, .int .i64 0, .int .i64 0, .string ⟨#[]⟩] 29 := ⟨_, rfl⟩
  obtain ⟨o3, ho3⟩ : ∃ o3 : Obj, o3 = .cells #[.int .i64 8, .bool false, .int .i64 0, .int .i64 0, .int .i64 k, .string ⟨#[]⟩] 29 := ⟨_, rfl⟩
  rw [← ho1, ← ho2, ← ho3] at A7
  have H1 := Hid.mk' ho1
  have H2 := Hid.mk' ho2
  have H3 := Hid.mk' ho3
  clear ho1 ho2 ho3
  go_loopw [17] (fun c wr => ∃ j : Nat, (j : Int) ≤ d ∧ c = .int .i64 j ∧ BackInv w s t hp sp b1 b2 b3 o1 o2 o3 j wr) (fun c _ => 5 - (intOf c).toNat)
  case atStart => exact ⟨0, by omega, rfl, [(1, g1), (2, g2)], [(g2, [txt s.toList]), (g1, [txt s.toList])], g1, g2, (Num.nil.push 1 rfl g1).push 2 rfl g2, rfl, rfl, rfl, m1, m0, A7⟩
  case round =>
    obtain ⟨j, hj, rfl, hinv⟩ := hrel
    have HI := Hid.mk' hinv
    clear hinv A7
    by_cases hlt : (j : Int) < d
    · obtain ⟨l, M, g1', g2', NN, hl, q1, q2, hM1, hM2, A8⟩ := HI.out
      clear HI
      have e3 : ((2 : Int) + j + 1) = 2 + ((j + 1 : Nat) : Int) := by omega
      have SM := string_more s t j hs200 ht200 (by omega)
      have hll : l.length < 10 := by omega
      have Q0 := Hid.mk' NN
      have Q1 := Hid.mk' hl
      have Q2 := Hid.mk' q1
      have Q3 := Hid.mk' q2
      have Q4 := Hid.mk' hM1
      have Q5 := Hid.mk' hM2
      clear NN hl q1 q2 hM1 hM2
      go_wp2_with fail
      refine (at_save A8 m0 hll (by omega) (by omega)).mono ?_
      rintro e w7 ⟨rfl, g3, A9⟩
      go_wp2_with fail
      refine (at_string ((A9.order p1).alloc _) t SM).mono ?_
      rintro e w8 ⟨rfl, A10⟩
      have A11 := A10.keep (List.sublist_cons_self _ _)
      rw [e3] at A11
      clear A9 A10 A8
      go_wp2_with fail
      go_roundw
      case rel =>
        refine ⟨j + 1, by omega, by go_num, l ++ [(2 + ((j + 1 : Nat) : Int), g3)], (g3, txt s.toList :: List.replicate j (txt t.toList)) :: M, g1', g2', Q0.out.push _ (by have := Q1.out; omega) g3, by have := Q1.out; simp; omega, ?_, ?_, List.mem_cons_of_mem _ Q4.out, List.mem_cons_of_mem _ Q5.out, A11⟩
        · rw [List.getElem?_append_left (by have := Q1.out; omega)]; exact Q2.out
        · rw [List.getElem?_append_left (by have := Q1.out; omega)]; exact Q3.out
      case measure => simp [intOf]; omega
    · obtain ⟨l, M, g1', g2', NN, hl, q1, q2, hM1, hM2, A8⟩ := HI.out
      clear HI
      have hlt' : d ≤ (j : Int) := by omega
      generalize List.replicate j (txt t.toList) = rest at *
      generalize (2 : Int) + j = last at *
      have hsl : (s.toList.length : Int) = k := by rw [size_toList]; exact hk
      have S2 := set_txt s.toList rest k 0 a2 hsl (by omega) (by omega) (by omega) l2 u2
      have S3 := bytes_all s.toList [] k hsl (by omega)
      rw [ofList] at S3
      generalize hex : (a3 % 2 == 1) = ex
      have FA : FindS l ⟨11, ex, 2, 0, 0, ⟨#[]⟩⟩ ((1 : Nat) : Int) := find_num NN 1 (by omega) 2 rfl ex _ rfl
      have N1 := NN.take 1
      have hl1 : (l.take 1).length = 1 := by simp; omega
      have q1' : (l.take 1)[0]? = some (1, g1') := by rw [List.getElem?_take_of_lt (by omega)]; exact q1
      have FB : FindS (l.take 1) ⟨11, ex, 2, 0, 0, ⟨#[]⟩⟩ (-1) := find_out N1 2 (.inr (by rw [hl1]; decide)) ex
      have FC : FindS (l.take 1) ⟨11, false, 1, 0, 0, ⟨#[]⟩⟩ ((0 : Nat) : Int) := find_num N1 0 (by omega) 1 rfl false _ rfl
      have hll : l.length ≤ 10 := by omega
      clear NN N1
      have eqs : (s.toList == s.toList) = true := by simp
      rw [H1.out, H2.out, H3.out] at A8
      have R8 := cells_of (A8.box _ m3)
      clear hl
      go_wp2_with fail
      refine (at_set A8 _ _ _ S2).mono ?_
      rintro e w9 ⟨rfl, A9⟩
      have R9 := cells_of (A9.box _ m1)
      have Z9 := free_of (A9.box _ m1)
      clear R8 A8 S2
      simp only at R9 Z9
      go_wp2_with fail
      have A10 := ((A9.perm p1).put 1 (.bool ex)).perm p1
      simp only [show (#[Value.int .i64 11, .bool false, .int .i64 2, .int .i64 0, .int .i64 0, .string ⟨#[]⟩] : Array Value).setIfInBounds 1 (.bool ex) = #[.int .i64 11, .bool ex, .int .i64 2, .int .i64 0, .int .i64 0, .string ⟨#[]⟩] from rfl] at A10
      generalize w9.setCell ⟨b1, 1, none⟩ (.bool ex) = w10 at *
      clear R9 Z9 A9
      refine (at_back A10 hll ⟨11, ex, 2, 0, 0, ⟨#[]⟩⟩ 1 (2, g2') FA q2 hM2).mono ?_
      rintro e w11 ⟨rfl, A11⟩
      clear FA A10
      generalize l.take 1 = l1 at *
      have R11 := cells_of (A11.box _ m3)
      go_wp2_with fail
      refine (at_bytes A11 _ S3 m0).mono ?_
      rintro e w12 ⟨rfl, A12⟩
      clear R11 A11 S3
      have R12 := cells_of (A12.box _ m1)
      go_wp2_with fail
      refine (at_cells A12 m0).mono ?_
      rintro e w13 ⟨rfl, rfl⟩
      go_wp2_with fail
      refine (at_slen A12 m0).mono ?_
      rintro e w13 ⟨rfl, rfl⟩
      rw [hl1]
      go_wp2_with fail
      refine (at_backNone A12 m0 (by omega) ⟨11, ex, 2, 0, 0, ⟨#[]⟩⟩ FB).mono ?_
      rintro e w13 ⟨rfl, A13⟩
      clear R12 A12 FB
      have R13 := cells_of (A13.box _ m2)
      go_wp2_with fail
      refine (at_back A13 (by omega) ⟨11, false, 1, 0, 0, ⟨#[]⟩⟩ 0 (1, g1') FC q1' hM1).mono ?_
      rintro e w14 ⟨rfl, A14⟩
      clear R13 A13 FC
      go_wp2_with fail
      refine (at_slen A14 m0).mono ?_
      rintro e w15 ⟨rfl, rfl⟩
      go_wp2_with fail
      go_ret
      exact ⟨by simp, A14.chg⟩
end Go.Proofs.Ytenlpkkeljhdeaa
