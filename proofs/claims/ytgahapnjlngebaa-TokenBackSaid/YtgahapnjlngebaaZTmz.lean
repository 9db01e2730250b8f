/- Walk: token.May at whatever word (all kinds). -/
import Derived.Test.YtgahapnjlngebaaZTma
namespace Go.Proofs.Ytgahapnjlngebaa
open Go.RowKit

set_option maxRecDepth 100000 in
theorem mayK_4 (p : Int) (s : ByteArray) (hs : s.size ≤ 9223372036854775807) (v : Bool) (hv : (decide (s.size ≤ 100) && decide (regL s.toList = s.size)) = v) (w : World) :
    Calls Try.prog 16 #[Tok.val ⟨4, 0, s, p⟩] w fun r w' => r = .returned (.bool v) ∧ Chg NoB w w' := by
  have hm := IntWalk.i64_in (s.size) (by omega)
  have X1 := (Chg.refl NoB w).alloc (tokBox 4 0 s p)
  have hb := blk_new w (tokBox 4 0 s p)
  by_cases h : s.size ≤ 100
  · have HR := hid' (fun w' => regular_any s 0 (by omega) (by omega) w')
    rw [List.drop_zero] at HR
    have d1 : decide ((s.size : Int) ≤ 100) = true := by simp; omega
    have e1 : (((regL s.toList : Nat) : Int) == (s.size : Int)) = v := by
      rw [← hv]; simp [h]
      rw [Bool.eq_iff_iff]; simp
      omega
    clear h hv
    go_enter Try.func16, Try.ntmps16
    go_upto_region 16 with (fail)
    generalize w.alloc _ = w1 at *
    generalize w.heap.size = b at *
    have RC := Chg.cells (S := NoB) hb id
    have hS1 : Chg NoB w1 w1 := Chg.refl _ _
    have l1 := blk_lt hb
    go_region_held3 (fun W' => Chg NoB w1 W') (first | (with_reducible assumption) | (with_reducible exact Chg.drew (by with_reducible assumption)))
      (first | (go_at_call 25; refine (HR.out _).mono ?_; rintro r w4 ⟨rfl, rfl⟩))
    go_wp2_with fail
    go_ret
    exact ⟨rfl, X1.trans (by first | with_reducible assumption | (with_reducible exact Chg.drew (by with_reducible assumption)))⟩
  · have d1 : decide ((s.size : Int) ≤ 100) = false := by simp; omega
    have e1 : v = false := by rw [← hv]; simp; omega
    subst e1
    clear h hv
    go_enter Try.func16, Try.ntmps16
    go_upto_region 16 with (fail)
    generalize w.alloc _ = w1 at *
    generalize w.heap.size = b at *
    have R1 := cells_of hb
    have l1 := blk_lt hb
    go_quiet (fail)
    go_wp2_with fail
    go_ret
    exact ⟨rfl, X1.drewN _⟩
set_option maxRecDepth 100000 in
theorem mayK_5 (p : Int) (s : ByteArray) (hs : s.size ≤ 9223372036854775807) (v : Bool) (hv : (decide (s.size ≤ 100) && decide (regL s.toList = s.size)) = v) (w : World) :
    Calls Try.prog 16 #[Tok.val ⟨5, 0, s, p⟩] w fun r w' => r = .returned (.bool v) ∧ Chg NoB w w' := by
  have hm := IntWalk.i64_in (s.size) (by omega)
  have X1 := (Chg.refl NoB w).alloc (tokBox 5 0 s p)
  have hb := blk_new w (tokBox 5 0 s p)
  by_cases h : s.size ≤ 100
  · have HR := hid' (fun w' => regular_any s 0 (by omega) (by omega) w')
    rw [List.drop_zero] at HR
    have d1 : decide ((s.size : Int) ≤ 100) = true := by simp; omega
    have e1 : (((regL s.toList : Nat) : Int) == (s.size : Int)) = v := by
      rw [← hv]; simp [h]
      rw [Bool.eq_iff_iff]; simp
      omega
    clear h hv
    go_enter Try.func16, Try.ntmps16
    go_upto_region 16 with (fail)
    generalize w.alloc _ = w1 at *
    generalize w.heap.size = b at *
    have RC := Chg.cells (S := NoB) hb id
    have hS1 : Chg NoB w1 w1 := Chg.refl _ _
    have l1 := blk_lt hb
    go_region_held3 (fun W' => Chg NoB w1 W') (first | (with_reducible assumption) | (with_reducible exact Chg.drew (by with_reducible assumption)))
      (first | (go_at_call 25; refine (HR.out _).mono ?_; rintro r w4 ⟨rfl, rfl⟩))
    go_wp2_with fail
    go_ret
    exact ⟨rfl, X1.trans (by first | with_reducible assumption | (with_reducible exact Chg.drew (by with_reducible assumption)))⟩
  · have d1 : decide ((s.size : Int) ≤ 100) = false := by simp; omega
    have e1 : v = false := by rw [← hv]; simp; omega
    subst e1
    clear h hv
    go_enter Try.func16, Try.ntmps16
    go_upto_region 16 with (fail)
    generalize w.alloc _ = w1 at *
    generalize w.heap.size = b at *
    have R1 := cells_of hb
    have l1 := blk_lt hb
    go_quiet (fail)
    go_wp2_with fail
    go_ret
    exact ⟨rfl, X1.drewN _⟩
set_option maxRecDepth 100000 in
set_option maxHeartbeats 400000 in
theorem mayK_3 (p : Int) (s : ByteArray) (hs : s.size ≤ 9223372036854775807) (v : Bool) (hv : (decide ((readF s.toList).2.2 = 3) && decide (s.size ≠ 0) && decide (s.size ≤ 100) && decide (regL s.toList = s.size)) = v) (w : World) :
    Calls Try.prog 16 #[Tok.val ⟨3, 0, s, p⟩] w fun r w' => r = .returned (.bool v) ∧ Chg NoB w w' := by
  have HD := hid' (fun w' => read_any s (by omega) w')
  generalize readF s.toList = RD at *
  obtain ⟨rk, rv, re⟩ := RD
  simp only at hv
  have hm := IntWalk.i64_in (s.size) (by omega)
  have X1 := (Chg.refl NoB w).alloc (tokBox 3 0 s p)
  have hb := blk_new w (tokBox 3 0 s p)
  by_cases c0 : re = 3
  · subst c0
    by_cases c1 : s.size = 0
    · obtain rfl := size0 c1
      have e1 : v = false := by rw [← hv, c1]; rfl
      subst e1
      clear hv
      go_enter Try.func16, Try.ntmps16
      go_wp2_with fail
      refine (HD.out _).mono ?_
      rintro r w2 ⟨rfl, X2⟩
      generalize hW : w.alloc _ = w1 at *
      clear hW
      have hb2 := X2.blk hb id
      have X3 := X1.trans X2
      generalize w.heap.size = b at *
      clear hb X1 X2
      have R1 := cells_of hb2
      have l1 := blk_lt hb2
      go_wp2_with fail
      go_ret
      exact ⟨rfl, X3⟩
    · have c2 : s.toList.isEmpty = false := by
        have := tl_size s
        cases hl : s.toList with
        | nil => rw [hl] at this; exact absurd this.symm c1
        | cons => rfl
      by_cases h : s.size ≤ 100
      · have HR := hid' (fun w' => regular_any s 0 (by omega) (by omega) w')
        rw [List.drop_zero] at HR
        have d1 : decide ((s.size : Int) ≤ 100) = true := by simp; omega
        have e1 : (((regL s.toList : Nat) : Int) == (s.size : Int)) = v := by
          rw [← hv]; simp [h, c1]
          rw [Bool.eq_iff_iff]; simp
          omega
        clear h hv c1
        go_enter Try.func16, Try.ntmps16
        go_wp2_with fail
        refine (HD.out _).mono ?_
        rintro r w2 ⟨rfl, X2⟩
        generalize hW : w.alloc _ = w1 at *
        clear hW
        have hb2 := X2.blk hb id
        have X3 := X1.trans X2
        generalize w.heap.size = b at *
        clear hb X1 X2
        have R1 := cells_of hb2
        have l1 := blk_lt hb2
        go_upto_region 16 with (fail)
        have RC := Chg.cells (S := NoB) hb2 id
        have hS1 : Chg NoB w2 w2 := Chg.refl _ _
        go_region_held3 (fun W' => Chg NoB w2 W') (first | (with_reducible assumption) | (with_reducible exact Chg.drew (by with_reducible assumption)))
          (first | (go_at_call 25; refine (HR.out _).mono ?_; rintro r w4 ⟨rfl, rfl⟩))
        go_wp2_with fail
        go_ret
        exact ⟨rfl, X3.trans (by first | with_reducible assumption | (with_reducible exact Chg.drew (by with_reducible assumption)))⟩
      · have d1 : decide ((s.size : Int) ≤ 100) = false := by simp; omega
        have e1 : v = false := by rw [← hv]; simp; omega
        subst e1
        clear h hv c1
        go_enter Try.func16, Try.ntmps16
        go_wp2_with fail
        refine (HD.out _).mono ?_
        rintro r w2 ⟨rfl, X2⟩
        generalize hW : w.alloc _ = w1 at *
        clear hW
        have hb2 := X2.blk hb id
        have X3 := X1.trans X2
        generalize w.heap.size = b at *
        clear hb X1 X2
        have R1 := cells_of hb2
        have l1 := blk_lt hb2
        go_upto_region 16 with (fail)
        go_quiet (fail)
        go_wp2_with fail
        go_ret
        exact ⟨rfl, X3.drewN _⟩
  · have e0 : (re == 3) = false := by simpa using c0
    have e1 : v = false := by rw [← hv]; simp [c0]
    subst e1
    clear hv c0
    go_enter Try.func16, Try.ntmps16
    go_wp2_with fail
    refine (HD.out _).mono ?_
    rintro r w2 ⟨rfl, X2⟩
    generalize hW : w.alloc _ = w1 at *
    clear hW
    have hb2 := X2.blk hb id
    have X3 := X1.trans X2
    generalize w.heap.size = b at *
    clear hb X1 X2
    have R1 := cells_of hb2
    have l1 := blk_lt hb2
    go_wp2_with fail
    all_goals first | (go_ret; exact ⟨rfl, X3⟩) | (exfalso; simp_all; done)
/-- token.May answers mayT. -/
theorem mayTok_any (t : Tok) (hs : t.s.size ≤ 9223372036854775807) (h0 : -9223372036854775808 ≤ t.kind) (h9 : t.kind ≤ 9223372036854775807) (w : World) :
    Calls Try.prog 16 #[t.val] w fun r w' => r = .returned (.bool (mayT t)) ∧ Chg NoB w w' := by
  obtain ⟨k, n, s, p⟩ := t
  simp only at hs h0 h9
  obtain ⟨v, hv⟩ : ∃ v, mayT ⟨k, n, s, p⟩ = v := ⟨_, rfl⟩
  rw [hv]
  unfold mayT at hv
  simp only at hv
  by_cases h1 : k = 1
  · subst h1; rw [if_pos rfl] at hv; exact mayK_1 n p s v hv w
  rw [if_neg h1] at hv
  by_cases h2 : k = 2
  · subst h2; rw [if_pos rfl] at hv; exact mayK_2 n p s v hv w
  rw [if_neg h2] at hv
  by_cases hn : n ≠ 0
  · rw [if_pos hn] at hv; subst hv; exact mayK_n k n p s h1 h2 hn w
  rw [if_neg hn] at hv
  have hn0 : n = 0 := by omega
  subst hn0
  by_cases h3 : k = 3
  · subst h3; rw [if_pos rfl] at hv; exact mayK_3 p s hs v hv w
  rw [if_neg h3] at hv
  by_cases h4 : k = 4
  · subst h4; rw [if_pos (.inl rfl)] at hv; exact mayK_4 p s hs v hv w
  by_cases h5 : k = 5
  · subst h5; rw [if_pos (.inr rfl)] at hv; exact mayK_5 p s hs v hv w
  rw [if_neg (fun h => h.elim h4 h5)] at hv
  by_cases h6 : k = 6
  · subst h6; rw [if_pos rfl] at hv; rw [← hv]; exact mayK_6 p s hs w
  rw [if_neg h6] at hv
  exact mayK_s k p s h0 h9 (fun j a b => by omega) v hv w
end Go.Proofs.Ytgahapnjlngebaa
