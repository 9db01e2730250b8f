/- Walk: numtext: digit, digits, tens, nearest, signed. -/
import Derived.Test.YtgahapnjlngebaaZChar
namespace Go.Proofs.Ytgahapnjlngebaa
open Go.RowKit

def isDig (c : UInt8) : Bool := decide (48 ≤ (c.toNat : Int)) && decide ((c.toNat : Int) ≤ 57)
def digL (l : List UInt8) : List UInt8 := l.takeWhile isDig
def accD (most : Int) (v : Int) (l : List UInt8) : Int := l.foldl (fun v c => if most < v * 10 + ((c.toNat : Int) - 48) then most else v * 10 + ((c.toNat : Int) - 48)) v
/-- A reader in memory. -/
abbrev rdBox (s : ByteArray) (k : Int) : Obj := .cells #[.string s, .int .i64 k] 61 (0, 0)
abbrev clo (b : Nat) : Value := .func (.func 45) #[.pointer (some ⟨b, 0, none⟩)] #[]

theorem digL_yes (s : ByteArray) (j : Nat) (h : j < s.size) (h1 : 48 ≤ (s[j].toNat : Int)) (h2 : (s[j].toNat : Int) ≤ 57) : digL (s.toList.drop j) = s[j] :: digL (s.toList.drop (j + 1)) := by
  rw [drop_at s j h]
  unfold digL
  rw [List.takeWhile_cons, if_pos]
  simp [isDig, h1, h2]
theorem digL_no (s : ByteArray) (j : Nat) (h : j < s.size) (h1 : (s[j].toNat : Int) < 48 ∨ 57 < (s[j].toNat : Int)) : digL (s.toList.drop j) = [] := by
  rw [drop_at s j h]
  unfold digL
  rw [List.takeWhile_cons, if_neg]
  simp [isDig]
  omega
theorem digL_end (s : ByteArray) (j : Nat) (h : s.size ≤ j) : digL (s.toList.drop j) = [] := by rw [drop_end s j h]; rfl

set_option maxRecDepth 100000 in
set_option maxHeartbeats 4000000 in
theorem digit_end (s : ByteArray) (k b : Nat) (w : World) (hb : w.heap[b]? = some (rdBox s k)) (h : s.size ≤ k) :
    Calls Try.prog 45 #[.pointer (some ⟨b, 0, none⟩)] w fun e w' => e = .returned (.tuple #[.int .i64 0, .bool false]) ∧ Chg NoB w w' := by
  have R := cells_of hb
  have lb := blk_lt hb
  have h' : (s.size : Int) ≤ k := by omega
  clear hb
  go_enter Try.func45, Try.ntmps45
  go_wp2_with fail
  go_quiet (fail)
  go_wp2_with fail
  go_ret2
  exact ⟨rfl, (Chg.refl NoB w).drewN _⟩

set_option maxRecDepth 100000 in
set_option maxHeartbeats 400000 in
theorem digit_low (s : ByteArray) (k b : Nat) (w : World) (hb : w.heap[b]? = some (rdBox s k)) (h : k < s.size) (hd : (s[k].toNat : Int) < 48) :
    Calls Try.prog 45 #[.pointer (some ⟨b, 0, none⟩)] w fun e w' => e = .returned (.tuple #[.int .i64 0, .bool false]) ∧ Chg NoB w w' := by
  have R := cells_of hb
  have lb := blk_lt hb
  have h' : (k : Int) < s.size := by omega
  have h0 : (0 : Int) ≤ k := by omega
  have g1 : decide (s.size ≤ k) = false := by simp; omega
  have g2 : decide ((s[k].toNat : Int) < 48) = true := by simp; omega
  clear hb
  go_enter Try.func45, Try.ntmps45
  go_wp2_with fail
  go_quiet (fail)
  go_wp2_with fail
  go_ret2
  exact ⟨rfl, (Chg.refl NoB w).drewN _⟩
set_option maxRecDepth 100000 in
set_option maxHeartbeats 400000 in
theorem digit_high (s : ByteArray) (k b : Nat) (w : World) (hb : w.heap[b]? = some (rdBox s k)) (h : k < s.size) (hd : 57 < (s[k].toNat : Int)) :
    Calls Try.prog 45 #[.pointer (some ⟨b, 0, none⟩)] w fun e w' => e = .returned (.tuple #[.int .i64 0, .bool false]) ∧ Chg NoB w w' := by
  have R := cells_of hb
  have lb := blk_lt hb
  have h' : (k : Int) < s.size := by omega
  have h0 : (0 : Int) ≤ k := by omega
  have g1 : decide (s.size ≤ k) = false := by simp; omega
  have g2 : decide ((s[k].toNat : Int) < 48) = false := by simp; omega
  have g3 : decide (57 < (s[k].toNat : Int)) = true := by simp; omega
  clear hb
  go_enter Try.func45, Try.ntmps45
  go_wp2_with fail
  go_quiet (fail)
  go_wp2_with fail
  go_ret2
  exact ⟨rfl, (Chg.refl NoB w).drewN _⟩
set_option maxRecDepth 100000 in
set_option maxHeartbeats 1000000 in
theorem digit_yes (s : ByteArray) (k b : Nat) (w : World) (hs : s.size ≤ 9223372036854775807) (hb : w.heap[b]? = some (rdBox s k)) (h : k < s.size) (h1 : 48 ≤ (s[k].toNat : Int)) (h2 : (s[k].toNat : Int) ≤ 57) :
    Calls Try.prog 45 #[.pointer (some ⟨b, 0, none⟩)] w fun e w' => e = .returned (.tuple #[.int .i64 ((s[k].toNat : Int) - 48), .bool true]) ∧ Chg (· = b) w w' ∧ w'.heap[b]? = some (rdBox s (k + 1)) := by
  have R := cells_of hb
  have Z := free_of hb
  have lb := blk_lt hb
  have h' : (k : Int) < s.size := by omega
  have h0 : (0 : Int) ≤ k := by omega
  have g1 : decide (s.size ≤ k) = false := by simp; omega
  have g2 : decide ((s[k].toNat : Int) < 48) = false := by simp; omega
  have g3 : decide (57 < (s[k].toNat : Int)) = false := by simp; omega
  go_enter Try.func45, Try.ntmps45
  go_wp2_with fail
  go_quiet (fail)
  have hb1 : (w.drewN nq).heap[b]? = some (rdBox s k) := hb
  have X1 := (Chg.refl (· = b) w).drewN nq
  have R := cells_of hb1
  have Z := free_of hb1
  have lb := blk_lt hb1
  generalize w.drewN nq = w1 at *
  clear hb
  go_wp2_with fail
  have hb2 := blk_set hb1 1 (.int .i64 ((k : Int) + 1))
  simp only [List.setIfInBounds_toArray, List.set_cons_zero, List.set_cons_succ] at hb2
  have X2 := X1.setCell (p := ⟨b, 1, none⟩) (.inl rfl) (.int .i64 ((k : Int) + 1))
  generalize w1.setCell ⟨b, 1, none⟩ (.int .i64 ((k : Int) + 1)) = w2 at *
  clear R Z lb hb1 X1
  have R := cells_of hb2
  have lb := blk_lt hb2
  have e1 : IntKind.i64.wrap ((k : Int) + 1 - 1) = (k : Int) := by rw [show (k : Int) + 1 - 1 = k by omega]; exact IntWalk.i64_in _ (by omega)
  go_quiet (fail)
  go_wp2_with fail
  go_ret2
  exact ⟨rfl, X2.drewN _, hb2⟩

theorem accD_cons (most v : Int) (c : UInt8) (l : List UInt8) : accD most v (c :: l) = accD most (if most < v * 10 + ((c.toNat : Int) - 48) then most else v * 10 + ((c.toNat : Int) - 48)) l := rfl
set_option maxRecDepth 100000 in
set_option maxHeartbeats 1000000 in
theorem digits_any (s : ByteArray) (k b : Nat) (w : World) (most : Int) (hs : s.size ≤ 9223372036854775807) (hb : w.heap[b]? = some (rdBox s k)) (hk : k ≤ s.size) (m0 : 0 ≤ most) (m1 : most ≤ 1000000000000) :
    Calls Try.prog 46 #[clo b, .int .i64 most] w fun e w' => e = .returned (.tuple #[.int .i64 (accD most 0 (digL (s.toList.drop k))), .int .i64 ((digL (s.toList.drop k)).length : Nat)]) ∧
      Chg (· = b) w w' ∧ w'.heap[b]? = some (rdBox s ((k + (digL (s.toList.drop k)).length : Nat) : Int)) := by
  go_enter Try.func46, Try.ntmps46
  go_wp2_with fail
  go_loopw [4, 5] (fun v n wr => ∃ (m : Nat) (x : Int), k + m ≤ s.size ∧ n = .int .i64 m ∧ v = .int .i64 x ∧ 0 ≤ x ∧ x ≤ most ∧ accD most 0 (digL (s.toList.drop k)) = accD most x (digL (s.toList.drop (k + m))) ∧
    (digL (s.toList.drop k)).length = m + (digL (s.toList.drop (k + m))).length ∧ Chg (· = b) w wr ∧ wr.heap[b]? = some (rdBox s ((k + m : Nat) : Int))) (fun _ n _ => s.size - (intOf n).toNat)
  case atStart => exact ⟨0, 0, by omega, rfl, rfl, Int.le_refl _, m0, rfl, by simp, Chg.refl _ _, hb⟩
  case round =>
    obtain ⟨m, x, hm, rfl, rfl, x0, x1, h1, h2, X, hb1⟩ := hrel
    have H1 := hid' h1
    have H2 := hid' h2
    clear h1 h2 hb
    by_cases hlt : k + m < s.size
    · by_cases c1 : 48 ≤ (s[k + m].toNat : Int)
      · by_cases c2 : (s[k + m].toNat : Int) ≤ 57
        · have HY := hid' (digL_yes s (k + m) hlt c1 c2)
          go_wp2_with fail
          refine (digit_yes s (k + m) b _ hs hb1 hlt c1 c2).mono ?_
          rintro e w1 ⟨rfl, X1, hb2⟩
          have HA := hid' (accD_cons most x s[k + m] (digL (s.toList.drop (k + m + 1))))
          generalize (s[k + m].toNat : Int) = c at *
          go_wp2_with fail
          go_roundw
          case rel =>
            refine ⟨m + 1, _, by omega, by go_num, rfl, ?_, ?_, by rw [H1.out, HY.out, HA.out]; rfl, by rw [H2.out, HY.out, List.length_cons]; simp only [Nat.add_assoc]; omega, X.trans X1, hb2⟩
            · split <;> omega
            · split <;> omega
          case measure => simp [intOf]; omega
        · have HY := hid' (digL_no s (k + m) hlt (.inr (by omega)))
          go_wp2_with fail
          refine (digit_high s (k + m) b _ hb1 hlt (by omega)).mono ?_
          rintro e w1 ⟨rfl, X1⟩
          go_wp2_with fail
          go_ret2
          refine ⟨by rw [H1.out, HY.out, H2.out, HY.out]; rfl, X.trans (X1.mono (fun _ _ e => e.elim)), ?_⟩
          rw [H2.out, HY.out]
          exact X1.blk hb1 id
      · have HY := hid' (digL_no s (k + m) hlt (.inl (by omega)))
        go_wp2_with fail
        refine (digit_low s (k + m) b _ hb1 hlt (by omega)).mono ?_
        rintro e w1 ⟨rfl, X1⟩
        go_wp2_with fail
        go_ret2
        refine ⟨by rw [H1.out, HY.out, H2.out, HY.out]; rfl, X.trans (X1.mono (fun _ _ e => e.elim)), ?_⟩
        rw [H2.out, HY.out]
        exact X1.blk hb1 id
    · have HY := hid' (digL_end s (k + m) (by omega))
      go_wp2_with fail
      refine (digit_end s (k + m) b _ hb1 (by omega)).mono ?_
      rintro e w1 ⟨rfl, X1⟩
      go_wp2_with fail
      go_ret2
      refine ⟨by rw [H1.out, HY.out, H2.out, HY.out]; rfl, X.trans (X1.mono (fun _ _ e => e.elim)), ?_⟩
      rw [H2.out, HY.out]
      exact X1.blk hb1 id

theorem signed_any (v : Int) (b : Bool) (h0 : -1000000000000 ≤ v) (h1 : v ≤ 1000000000000) (w : World) :
    Calls Try.prog 47 #[.int .i64 v, .bool b] w fun e w' => e = .returned (.int .i64 (if b = true then -v else v)) ∧ w = w' := by
  cases b
  all_goals
    go_enter Try.func47, Try.ntmps47
    go_wp2
    go_ret
    exact ⟨by simp, rfl⟩
end Go.Proofs.Ytgahapnjlngebaa
