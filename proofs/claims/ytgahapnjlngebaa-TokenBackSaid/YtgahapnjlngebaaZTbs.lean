/- Walk: numtext.based. -/
import Derived.Test.YtgahapnjlngebaaZTnv
namespace Go.Proofs.Ytgahapnjlngebaa
open Go.RowKit

/-- Digits to a base, held at MaxInt + 1; none: what is no digit of it. -/
def accB (base : Int) : Int → List UInt8 → Option Int
  | v, [] => some v
  | v, c :: l => if valueI c.toNat < 0 ∨ base ≤ valueI c.toNat then none else accB base (if 2147483648 < v * base + valueI c.toNat then 2147483648 else v * base + valueI c.toNat) l
/-- A number to a base. -/
def basedF (l : List UInt8) : Option Int :=
  if (digL l).length < 1 ∨ 2 < (digL l).length ∨ l.head? = some 48 ∨ accD 1000 0 (digL l) < 2 ∨ 36 < accD 1000 0 (digL l) ∨ l.length ≤ (digL l).length + 1 ∨ l[(digL l).length]? ≠ some 35 then none
  else accB (accD 1000 0 (digL l)) 0 (l.drop ((digL l).length + 1))
def basedV : Option Int → Value
  | none => .tuple #[.int .i64 0, .bool false]
  | some v => .tuple #[.int .i64 v, .bool true]

theorem lst_get (s : ByteArray) (j : Nat) (h : j < s.size) : s.toList[j]? = some s[j] := by
  have h1 := drop_at s j h
  have h2 : (s.toList.drop j)[0]? = s.toList[j]? := by simp
  rw [← h2, h1]; rfl
theorem accB_yes (base v : Int) (s : ByteArray) (j : Nat) (h : j < s.size) (h1 : ¬ valueI s[j].toNat < 0) (h2 : ¬ base ≤ valueI s[j].toNat) :
    accB base v (s.toList.drop j) = accB base (if 2147483648 < v * base + valueI s[j].toNat then 2147483648 else v * base + valueI s[j].toNat) (s.toList.drop (j + 1)) := by
  rw [drop_at s j h, accB, if_neg (by omega)]
theorem accB_no (base v : Int) (s : ByteArray) (j : Nat) (h : j < s.size) (h1 : valueI s[j].toNat < 0 ∨ base ≤ valueI s[j].toNat) : accB base v (s.toList.drop j) = none := by
  rw [drop_at s j h, accB, if_pos h1]
theorem accB_end (base v : Int) (s : ByteArray) (j : Nat) (h : s.size ≤ j) : accB base v (s.toList.drop j) = some v := by rw [drop_end s j h]; rfl
theorem valueI_le (c : Int) : valueI c ≤ 35 ∧ -1 ≤ valueI c := by
  unfold valueI
  split
  · omega
  · split
    · omega
    · split <;> omega
theorem accD_le (most : Int) (h : 0 ≤ most) (l : List UInt8) (hl : ∀ c ∈ l, isDig c = true) (v : Int) (h0 : 0 ≤ v) (h1 : v ≤ most) : 0 ≤ accD most v l ∧ accD most v l ≤ most := by
  induction l generalizing v with
  | nil => exact ⟨h0, h1⟩
  | cons c l ih =>
    rw [accD_cons]
    have hc := hl c (List.mem_cons_self ..)
    simp only [isDig, Bool.and_eq_true, decide_eq_true_eq] at hc
    refine ih (fun x hx => hl x (List.mem_cons_of_mem _ hx)) _ ?_ ?_ <;> (split <;> omega)
theorem digL_all (l : List UInt8) : ∀ c ∈ digL l, isDig c = true := fun c hc => by
  have := List.all_takeWhile (p := isDig) (l := l)
  rw [List.all_eq_true] at this
  exact this c hc
theorem digL_len (l : List UInt8) : (digL l).length ≤ l.length := (List.takeWhile_sublist _).length_le

set_option maxRecDepth 100000 in
set_option maxHeartbeats 4000000 in
theorem based_any (s : ByteArray) (hs : s.size ≤ 9223372036854775807) (w : World) :
    Calls Try.prog 44 #[.string s] w fun e w' => e = .returned (basedV (basedF s.toList)) ∧ Chg NoB w w' := by
  have hr : basedF s.toList = if (digL s.toList).length < 1 ∨ 2 < (digL s.toList).length ∨ s.toList.head? = some 48 ∨ accD 1000 0 (digL s.toList) < 2 ∨ 36 < accD 1000 0 (digL s.toList) ∨ s.toList.length ≤ (digL s.toList).length + 1 ∨ s.toList[(digL s.toList).length]? ≠ some 35 then none
    else accB (accD 1000 0 (digL s.toList)) 0 (s.toList.drop ((digL s.toList).length + 1)) := rfl
  have hD := fun (w : World) (b : Nat) (hb : w.heap[b]? = some (rdBox s ((0 : Nat) : Int))) => digits_any s 0 b w 1000 hs hb (Nat.zero_le _) (by omega) (by omega)
  rw [List.drop_zero] at hD
  have hnl := digL_len s.toList
  have hbd := accD_le 1000 (by omega) (digL s.toList) (digL_all _) 0 (by omega) (by omega)
  rw [size_lst] at hnl hr
  generalize accD 1000 0 (digL s.toList) = base at *
  generalize (digL s.toList).length = n at *
  have HR := hid' hr
  clear hr
  have hB := blk_new w (rdBox s 0)
  have X0 := (Chg.refl NoB w).alloc (rdBox s 0)
  go_enter Try.func44, Try.ntmps44
  go_wp2_with fail
  refine (hD _ _ hB).mono ?_
  rintro e w1 ⟨rfl, X1, hb1⟩
  rw [Nat.zero_add] at hb1
  have X2 : Chg NoB w w1 := X0.trans' X1 (fun i hi e => by omega)
  clear hD hB X0 X1
  have R := cells_of hb1
  have lb := blk_lt hb1
  clear hb1
  obtain ⟨bd0, bd1⟩ := hbd
  by_cases a1 : n < 1
  · have a1' : (n : Int) < 1 := by omega
    go_wp2_with fail
    go_ret2
    exact ⟨by rw [HR.out, if_pos (.inl a1)]; rfl, X2⟩
  by_cases a2 : 2 < n
  · have a2' : 2 < (n : Int) := by omega
    have a1' : 1 ≤ (n : Int) := by omega
    go_wp2_with fail
    go_ret2
    exact ⟨by rw [HR.out, if_pos (.inr (.inl a2))]; rfl, X2⟩
  have a1' : 1 ≤ (n : Int) := by omega
  have a2' : (n : Int) ≤ 2 := by omega
  have hsz : 0 < s.size := by omega
  have hh : s.toList.head? = some s[0] := by rw [List.head?_eq_getElem?]; exact lst_get s 0 hsz
  by_cases a3 : s[0] = 48
  · have a3' : ((s[0].toNat : Int) == 48) = true := by rw [a3]; rfl
    have HR2 := hid' (HR.out.trans (if_pos (.inr (.inr (.inl (by rw [hh, a3]))))))
    clear hh a3
    go_wp2_with fail
    go_ret2
    exact ⟨by rw [HR2.out]; rfl, X2⟩
  have a3' : ((s[0].toNat : Int) == 48) = false := by
    simp only [beq_eq_false_iff_ne, ne_eq]
    intro e
    exact a3 (UInt8.toNat_inj.1 (by simp; omega))
  have HH := hid' (show s.toList.head? ≠ some 48 by rw [hh]; simpa using a3)
  clear hh a3
  by_cases a4 : base < 2
  · go_wp2_with fail
    go_ret2
    exact ⟨by rw [HR.out, if_pos (.inr (.inr (.inr (.inl a4))))]; rfl, X2⟩
  have a4' : 2 ≤ base := by omega
  by_cases a5 : 36 < base
  · go_wp2_with fail
    go_ret2
    exact ⟨by rw [HR.out, if_pos (.inr (.inr (.inr (.inr (.inl a5)))))]; rfl, X2⟩
  have a5' : base ≤ 36 := by omega
  by_cases a6 : s.size ≤ n + 1
  · have a6' : (s.size : Int) - 1 ≤ n := by omega
    go_wp2_with fail
    go_ret2
    exact ⟨by rw [HR.out, if_pos (.inr (.inr (.inr (.inr (.inr (.inl a6))))))]; rfl, X2⟩
  have a6' : (n : Int) < (s.size : Int) - 1 := by omega
  have hn : n < s.size := by omega
  have hn' : (n : Int) < s.size := by omega
  have hg := lst_get s n hn
  by_cases a7 : s[n] = 35
  · have a7' : ((s[n].toNat : Int) != 35) = false := by rw [a7]; rfl
    have HR2 := hid' (HR.out.trans (if_neg (by
      rintro (h | h | h | h | h | h | h)
      · exact a1 h
      · exact a2 h
      · exact HH.out h
      · exact a4 h
      · exact a5 h
      · exact a6 h
      · exact h (by rw [hg, a7]))))
    clear hg a7 HR
    go_wp2_with fail
    go_loop [2, 7] (fun v i => ∃ (j : Nat) (x : Int), j ≤ s.size ∧ i = .int .i64 j ∧ v = .int .i64 x ∧ 0 ≤ x ∧ x ≤ 2147483648 ∧ basedF s.toList = accB base x (s.toList.drop j)) (fun _ i => s.size - (intOf i).toNat)
    case atStart => exact ⟨n + 1, 0, by omega, by go_num, rfl, by omega, by omega, HR2.out⟩
    case round =>
      obtain ⟨j, x, hj, rfl, rfl, x0, x1, h1⟩ := hrel
      have H1 := hid' h1
      clear h1 R lb
      by_cases hlt : j < s.size
      · have hlt' : (j : Int) < s.size := by omega
        obtain ⟨vl, vm⟩ := valueI_le s[j].toNat
        have u0 : (s[j].toNat : Int) < 256 := by have := s[j].toNat_lt; omega
        by_cases c1 : valueI s[j].toNat < 0
        · have HY := hid' (accB_no base x s j hlt (.inl c1))
          go_wp2_with (go_at_call 70; refine (value_any _ (by omega) (by omega) _).mono ?_; rintro e w' ⟨rfl, rfl⟩)
          go_ret2
          exact ⟨by rw [H1.out, HY.out]; rfl, X2⟩
        · by_cases c2 : base ≤ valueI s[j].toNat
          · have HY := hid' (accB_no base x s j hlt (.inr c2))
            have c1' : 0 ≤ valueI s[j].toNat := by omega
            go_wp2_with (go_at_call 70; refine (value_any _ (by omega) (by omega) _).mono ?_; rintro e w' ⟨rfl, rfl⟩)
            go_ret2
            exact ⟨by rw [H1.out, HY.out]; rfl, X2⟩
          · have HY := hid' (accB_yes base x s j hlt c1 c2)
            have c1' : 0 ≤ valueI s[j].toNat := by omega
            have c2' : valueI s[j].toNat < base := by omega
            have m1 : 0 ≤ x * base := Int.mul_nonneg x0 (by omega)
            have m2 : x * base ≤ 2147483648 * 36 := Int.mul_le_mul x1 a5' (by omega) (by omega)
            go_wp2_with (go_at_call 70; refine (value_any _ (by omega) (by omega) _).mono ?_; rintro e w' ⟨rfl, rfl⟩)
            go_round
            case rel =>
              refine ⟨j + 1, _, by omega, by go_num, rfl, ?_, ?_, by rw [H1.out, HY.out]⟩
              · split <;> omega
              · split <;> omega
            case measure => simp [intOf]; omega
      · obtain rfl : j = s.size := by omega
        have HY := hid' (accB_end base x s s.size (Nat.le_refl _))
        go_wp2_with fail
        go_ret2
        exact ⟨by rw [H1.out, HY.out]; rfl, X2⟩
  · have a7' : ((s[n].toNat : Int) != 35) = true := by
      simp only [bne_iff_ne, ne_eq]
      intro e
      exact a7 (UInt8.toNat_inj.1 (by simp; omega))
    have HR2 := hid' (HR.out.trans (if_pos (.inr (.inr (.inr (.inr (.inr (.inr (by rw [hg]; simpa using a7)))))))))
    clear hg a7
    go_wp2_with fail
    go_ret2
    exact ⟨by rw [HR2.out]; rfl, X2⟩
end Go.Proofs.Ytgahapnjlngebaa
