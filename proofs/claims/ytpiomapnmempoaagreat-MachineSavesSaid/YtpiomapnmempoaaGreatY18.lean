/- Parts of the proof: Tbs, Trd. -/
import Derived.Test.YtpiomapnmempoaaGreatY09
namespace Go.Proofs.YtpiomapnmempoaaGreat
open Go.RowKit
def accB (base : Int) : Int → List UInt8 → Option Int
 | v, [] => some v
 | v, c :: l => if valueI c.toNat < 0 ∨ base ≤ valueI c.toNat then none else accB base (if 2147483648 < v * base + valueI c.toNat then 2147483648 else v * base + valueI c.toNat) l
def basedF (l : List UInt8) : Option Int :=
 if (digL l).length < 1 ∨ 2 < (digL l).length ∨ l.head? = some 48 ∨ accD 1000 0 (digL l) < 2 ∨ 36 < accD 1000 0 (digL l) ∨ l.length ≤ (digL l).length + 1 ∨ l[(digL l).length]? ≠ some 35 then none
 else accB (accD 1000 0 (digL l)) 0 (l.drop ((digL l).length + 1))
def basedV : Option Int → Value
 | none => .tuple #[.int .i64 0, .bool false]
 | some v => .tuple #[.int .i64 v, .bool true]
theorem lst_get (s : ByteArray) (j : Nat) (h : j < s.size) : s.toList[j]? = some s[j] := by
 have h1 := drop_at s j h
 have h2 : (s.toList.drop j)[0]? = s.toList[j]? := by simp
 rw [← h2, h1]; rfl
theorem accB_yes (base v : Int) (s : ByteArray) (j : Nat) (h : j < s.size) (h1 : ¬ valueI s[j].toNat < 0) (h2 : ¬ base ≤ valueI s[j].toNat) :
 accB base v (s.toList.drop j) = accB base (if 2147483648 < v * base + valueI s[j].toNat then 2147483648 else v * base + valueI s[j].toNat) (s.toList.drop (j + 1)) := by
 rw [drop_at s j h, accB, if_neg (by omega)]
theorem accB_no (base v : Int) (s : ByteArray) (j : Nat) (h : j < s.size) (h1 : valueI s[j].toNat < 0 ∨ base ≤ valueI s[j].toNat) : accB base v (s.toList.drop j) = none := by
 rw [drop_at s j h, accB, if_pos h1]
theorem accB_end (base v : Int) (s : ByteArray) (j : Nat) (h : s.size ≤ j) : accB base v (s.toList.drop j) = some v := by rw [drop_end s j h]; rfl
theorem valueI_le (c : Int) : valueI c ≤ 35 ∧ -1 ≤ valueI c := by
 unfold valueI; split
 · omega
 · split
   · omega
   · split <;> omega
theorem accD_le (most : Int) (h : 0 ≤ most) (l : List UInt8) (hl : ∀ c ∈ l, isDig c = true) (v : Int) (h0 : 0 ≤ v) (h1 : v ≤ most) : 0 ≤ accD most v l ∧ accD most v l ≤ most := by
 induction l generalizing v with
 | nil => exact ⟨h0, h1⟩
 | cons c l ih =>
  rw [accD_cons]; have hc := hl c (List.mem_cons_self ..); simp only [isDig, Bool.and_eq_true, decide_eq_true_eq] at hc
  refine ih (fun x hx => hl x (List.mem_cons_of_mem _ hx)) _ ?_ ?_ <;> (split <;> omega)
theorem digL_all (l : List UInt8) : ∀ c ∈ digL l, isDig c = true := fun c hc => by
 have := List.all_takeWhile (p := isDig) (l := l); rw [List.all_eq_true] at this; exact this c hc
theorem digL_len (l : List UInt8) : (digL l).length ≤ l.length := (List.takeWhile_sublist _).length_le
set_option maxRecDepth 100000 in
set_option maxHeartbeats 4000000 in
theorem based_any (s : ByteArray) (hs : s.size ≤ 9223372036854775807) (w : World) :
 Calls Tryz.prog 110 #[.string s] w fun e w' => e = .returned (basedV (basedF s.toList)) ∧ Chg NoB w w' := by
 have hr : basedF s.toList = if (digL s.toList).length < 1 ∨ 2 < (digL s.toList).length ∨ s.toList.head? = some 48 ∨ accD 1000 0 (digL s.toList) < 2 ∨ 36 < accD 1000 0 (digL s.toList) ∨ s.toList.length ≤ (digL s.toList).length + 1 ∨ s.toList[(digL s.toList).length]? ≠ some 35 then none
  else accB (accD 1000 0 (digL s.toList)) 0 (s.toList.drop ((digL s.toList).length + 1)) := rfl
 have hD := fun (w : World) (b : Nat) (hb : w.heap[b]? = some (rdBox s ((0 : Nat) : Int))) => digits_any s 0 b w 1000 hs hb (Nat.zero_le _) (by omega) (by omega); rw [List.drop_zero] at hD; have hnl := digL_len s.toList; have hbd := accD_le 1000 (by omega) (digL s.toList) (digL_all _) 0 (by omega) (by omega); rw [size_lst] at hnl hr; generalize accD 1000 0 (digL s.toList) = base at *; generalize (digL s.toList).length = n at *; have HR := hid' hr; clear hr; have hB := blk_new w (rdBox s 0); have X0 := (Chg.refl NoB w).alloc (rdBox s 0); go_enter Tryz.func110, Tryz.ntmps110
 go_wp2_with fail
 refine (hD _ _ hB).mono ?_; rintro e w1 ⟨rfl, X1, hb1⟩; rw [Nat.zero_add] at hb1; have X2 : Chg NoB w w1 := X0.trans' X1 (fun i hi e => by omega); clear hD hB X0 X1; have R := cells_of hb1; have lb := blk_lt hb1; clear hb1; obtain ⟨bd0, bd1⟩ := hbd
 by_cases a1 : n < 1
 · have a1' : (n : Int) < 1 := by omega
   go_wp2_with fail
   go_ret2
   exact ⟨by rw [HR.out, if_pos (.inl a1)]; rfl, X2⟩
 by_cases a2 : 2 < n
 · have a2' : 2 < (n : Int) := by omega
   have a1' : 1 ≤ (n : Int) := by omega
   go_wp2_with fail
   go_ret2
   exact ⟨by rw [HR.out, if_pos (.inr (.inl a2))]; rfl, X2⟩
 have a1' : 1 ≤ (n : Int) := by omega
 have a2' : (n : Int) ≤ 2 := by omega
 have hsz : 0 < s.size := by omega
 have hh : s.toList.head? = some s[0] := by rw [List.head?_eq_getElem?]; exact lst_get s 0 hsz
 by_cases a3 : s[0] = 48
 · have a3' : ((s[0].toNat : Int) == 48) = true := by rw [a3]; rfl
   have HR2 := hid' (HR.out.trans (if_pos (.inr (.inr (.inl (by rw [hh, a3])))))); clear hh a3; go_wp2_with fail
   go_ret2
   exact ⟨by rw [HR2.out]; rfl, X2⟩
 have a3' : ((s[0].toNat : Int) == 48) = false := by
  simp only [beq_eq_false_iff_ne, ne_eq]; intro e; exact a3 (UInt8.toNat_inj.1 (by simp; omega))
 have HH := hid' (show s.toList.head? ≠ some 48 by rw [hh]; simpa using a3); clear hh a3
 by_cases a4 : base < 2
 · go_wp2_with fail
   go_ret2
   exact ⟨by rw [HR.out, if_pos (.inr (.inr (.inr (.inl a4))))]; rfl, X2⟩
 have a4' : 2 ≤ base := by omega
 by_cases a5 : 36 < base
 · go_wp2_with fail
   go_ret2
   exact ⟨by rw [HR.out, if_pos (.inr (.inr (.inr (.inr (.inl a5)))))]; rfl, X2⟩
 have a5' : base ≤ 36 := by omega
 by_cases a6 : s.size ≤ n + 1
 · have a6' : (s.size : Int) - 1 ≤ n := by omega
   go_wp2_with fail
   go_ret2
   exact ⟨by rw [HR.out, if_pos (.inr (.inr (.inr (.inr (.inr (.inl a6))))))]; rfl, X2⟩
 have a6' : (n : Int) < (s.size : Int) - 1 := by omega
 have hn : n < s.size := by omega
 have hn' : (n : Int) < s.size := by omega
 have hg := lst_get s n hn
 by_cases a7 : s[n] = 35
 · have a7' : ((s[n].toNat : Int) != 35) = false := by rw [a7]; rfl
   have HR2 := hid' (HR.out.trans (if_neg (by
    rintro (h | h | h | h | h | h | h)
    · exact a1 h
    · exact a2 h
    · exact HH.out h
    · exact a4 h
    · exact a5 h
    · exact a6 h
    · exact h (by rw [hg, a7]))))
   clear hg a7 HR; go_wp2_with fail
   go_loop [2, 7] (fun v i => ∃ (j : Nat) (x : Int), j ≤ s.size ∧ i = .int .i64 j ∧ v = .int .i64 x ∧ 0 ≤ x ∧ x ≤ 2147483648 ∧ basedF s.toList = accB base x (s.toList.drop j)) (fun _ i => s.size - (intOf i).toNat)
   case atStart => exact ⟨n + 1, 0, by omega, by go_num, rfl, by omega, by omega, HR2.out⟩
   case round =>
    obtain ⟨j, x, hj, rfl, rfl, x0, x1, h1⟩ := hrel; have H1 := hid' h1; clear h1 R lb
    by_cases hlt : j < s.size
    · have hlt' : (j : Int) < s.size := by omega
      obtain ⟨vl, vm⟩ := valueI_le s[j].toNat
      have u0 : (s[j].toNat : Int) < 256 := by have := s[j].toNat_lt; omega
      by_cases c1 : valueI s[j].toNat < 0
      · have HY := hid' (accB_no base x s j hlt (.inl c1))
        go_wp2_with (go_at_call 129; refine (value_any _ (by omega) (by omega) _).mono ?_; rintro e w' ⟨rfl, rfl⟩)
        go_ret2
        exact ⟨by rw [H1.out, HY.out]; rfl, X2⟩
      · by_cases c2 : base ≤ valueI s[j].toNat
        · have HY := hid' (accB_no base x s j hlt (.inr c2))
          have c1' : 0 ≤ valueI s[j].toNat := by omega
          go_wp2_with (go_at_call 129; refine (value_any _ (by omega) (by omega) _).mono ?_; rintro e w' ⟨rfl, rfl⟩)
          go_ret2
          exact ⟨by rw [H1.out, HY.out]; rfl, X2⟩
        · have HY := hid' (accB_yes base x s j hlt c1 c2)
          have c1' : 0 ≤ valueI s[j].toNat := by omega
          have c2' : valueI s[j].toNat < base := by omega
          have m1 : 0 ≤ x * base := Int.mul_nonneg x0 (by omega); have m2 : x * base ≤ 2147483648 * 36 := Int.mul_le_mul x1 a5' (by omega) (by omega)
          go_wp2_with (go_at_call 129; refine (value_any _ (by omega) (by omega) _).mono ?_; rintro e w' ⟨rfl, rfl⟩)
          go_round
          case rel =>
           refine ⟨j + 1, _, by omega, by go_num, rfl, ?_, ?_, by rw [H1.out, HY.out]⟩
           · split <;> omega
           · split <;> omega
          case measure => simp [intOf]; omega
    · obtain rfl : j = s.size := by omega
      have HY := hid' (accB_end base x s s.size (Nat.le_refl _)); go_wp2_with fail
      go_ret2
      exact ⟨by rw [H1.out, HY.out]; rfl, X2⟩
 · have a7' : ((s[n].toNat : Int) != 35) = true := by
    simp only [bne_iff_ne, ne_eq]; intro e; exact a7 (UInt8.toNat_inj.1 (by simp; omega))
   have HR2 := hid' (HR.out.trans (if_pos (.inr (.inr (.inr (.inr (.inr (.inr (by rw [hg]; simpa using a7))))))))); clear hg a7; go_wp2_with fail
   go_ret2
   exact ⟨by rw [HR2.out]; rfl, X2⟩
def sgnI (b : Bool) (v : Int) : Int := if b = true then -v else v
def readS (l : List UInt8) (k : Nat) (below : Bool) : Int × Int × Int :=
 if k + (digL (l.drop k)).length = l.length ∧ 0 < (digL (l.drop k)).length then
  if 2147483647 < accD 2147483648 0 (digL (l.drop k)) then (0, 0, 2) else (1, sgnI below (accD 2147483648 0 (digL (l.drop k))), 0)
 else if k + (digL (l.drop k)).length = l.length ∨ l[k + (digL (l.drop k)).length]? ≠ some 46 then (0, 0, 3)
 else if k + (digL (l.drop k)).length + 1 + (digL (l.drop (k + (digL (l.drop k)).length + 1))).length ≠ l.length ∨ (digL (l.drop k)).length + (digL (l.drop (k + (digL (l.drop k)).length + 1))).length = 0 then (0, 0, 3)
 else if 12 < (digL (l.drop (k + (digL (l.drop k)).length + 1))).length ∨ 16383 < accD 2147483648 0 (digL (l.drop k)) then (0, 0, 2)
 else if 1073741823 < accD 2147483648 0 (digL (l.drop k)) * 65536 + nearI (accD 1000000000000 0 (digL (l.drop (k + (digL (l.drop k)).length + 1))) * 65536) (10 ^ (digL (l.drop (k + (digL (l.drop k)).length + 1))).length) then (0, 0, 2)
 else (2, sgnI below (accD 2147483648 0 (digL (l.drop k)) * 65536 + nearI (accD 1000000000000 0 (digL (l.drop (k + (digL (l.drop k)).length + 1))) * 65536) (10 ^ (digL (l.drop (k + (digL (l.drop k)).length + 1))).length)), 0)
def readF (l : List UInt8) : Int × Int × Int :=
 match basedF l with
 | some v => if 2147483647 < v then (0, 0, 2) else (1, v, 0)
 | none => if l.head? = some 43 then readS l 1 false else if l.head? = some 45 then readS l 1 true else readS l 0 false
abbrev readV (x : Int × Int × Int) : Value := .tuple #[.int .i64 x.1, .int .i64 x.2.1, .int .i64 x.2.2]
theorem nearI_le (a b : Int) (h0 : 0 ≤ a) (h2 : 1 ≤ b) : 0 ≤ nearI a b ∧ nearI a b ≤ a + 1 := by
 have q0 : 0 ≤ a / b := Int.ediv_nonneg h0 (by omega); have q1 : a / b ≤ a := Int.ediv_le_self b h0; unfold nearI
 split <;> omega
set_option maxRecDepth 100000 in
set_option maxHeartbeats 8000000 in
theorem read_any (s : ByteArray) (hs : s.size ≤ 9223372036854775807) (w : World) :
 Calls Tryz.prog 84 #[.string s] w fun e w' => e = .returned (readV (readF s.toList)) ∧ Chg NoB w w' := by
 have HB := based_any s hs w
 cases hbf : basedF s.toList with
 | some v =>
  have hr : readF s.toList = if 2147483647 < v then (0, 0, 2) else (1, v, 0) := by unfold readF; rw [hbf]
  have HR := hid' hr; rw [hbf] at HB; simp only [basedV] at HB; clear hr hbf
  by_cases hv : 2147483647 < v
  · go_enter Tryz.func84, Tryz.ntmps84
    go_wp2_with fail
    refine HB.mono ?_; rintro e w1 ⟨rfl, X1⟩; go_wp2_with fail
    go_ret3; exact ⟨by rw [HR.out, if_pos hv]; rfl, X1⟩
  · have hv' : v ≤ 2147483647 := by omega
    go_enter Tryz.func84, Tryz.ntmps84
    go_wp2_with fail
    refine HB.mono ?_; rintro e w1 ⟨rfl, X1⟩; go_wp2_with fail
    go_ret3; exact ⟨by rw [HR.out, if_neg (by omega)]; rfl, X1⟩
 | none =>
  have hr : readF s.toList = if s.toList.head? = some 43 then readS s.toList 1 false else if s.toList.head? = some 45 then readS s.toList 1 true else readS s.toList 0 false := by unfold readF; rw [hbf]
  rw [hbf] at HB; simp only [basedV] at HB; clear hbf
  by_cases h0 : s.size = 0
  · have he : s.toList = [] := List.eq_nil_of_length_eq_zero (by rw [size_lst]; exact h0)
    have hf : readF s.toList = readS s.toList 0 false := by rw [hr, he]; rfl
    have HR := hid' hf
    have hx : s.toList.isEmpty = true := by rw [he]; rfl
    have hx' : (!s.toList.isEmpty) = false := by rw [hx]; rfl
    clear hr hf he; go_enter Tryz.func84, Tryz.ntmps84
    go_wp2_with fail
    refine HB.mono ?_; rintro e w1 ⟨rfl, X1⟩; go_wp2_with fail
    have hb0 := blk_new w1 (rdBox s ((0 : Nat) : Int))
    have hln : ∀ j, (digL (s.toList.drop j)).length ≤ s.size - j := fun j => by have := digL_len (s.toList.drop j); rw [List.length_drop, size_lst] at this; exact this
    have ha : 0 + (digL (s.toList.drop 0)).length ≤ s.size := by have := hln 0; omega
    have hna : (digL (s.toList.drop 0)).length ≤ 0 + (digL (s.toList.drop 0)).length := by omega
    have hv := accD_le 2147483648 (by omega) (digL (s.toList.drop 0)) (digL_all _) 0 (by omega) (by omega); refine (digits_any s 0 w1.heap.size _ 2147483648 hs hb0 (by omega) (by omega) (by omega)).mono ?_; rintro e w2 ⟨rfl, X2, hb2⟩; have X3 : Chg NoB w w2 := (X1.alloc (rdBox s ((0 : Nat) : Int))).trans' X2 (fun i hi e => by have := X1.size; omega); have hlb : w.heap.size ≤ w1.heap.size := X1.size; clear X1 X2 hb0 HB; have hr2 := HR.out; unfold readS at hr2; rw [size_lst] at hr2; generalize accD 2147483648 0 (digL (s.toList.drop 0)) = v at *; generalize (digL (s.toList.drop 0)).length = n at *; generalize 0 + n = a at *; generalize w1.heap.size = b at *; have HL := hid' hln; have HR2 := hid' hr2; clear hr2 HR hln; obtain ⟨v0, v1⟩ := hv; have R := cells_of hb2; have lb := blk_lt hb2
    obtain rfl : a = s.size := by omega
    obtain rfl : n = 0 := by omega
    have HR3 := hid' (HR2.out.trans ((if_neg (fun h => absurd h.2 (by omega))).trans (if_pos (.inl rfl)))); clear HR2 h0; go_wp2_with fail
    go_ret3; exact ⟨by rw [HR3.out]; rfl, X3⟩
  have hsz : 0 < s.size := by omega
  have hsz' : 0 < (s.size : Int) := by omega
  have hh : s.toList.head? = some s[0] := by rw [List.head?_eq_getElem?]; exact lst_get s 0 hsz
  have hx : s.toList.isEmpty = false := by
   cases hl : s.toList with
   | nil => rw [hl] at hh; simp at hh
   | cons => rfl
  have hx' : (!s.toList.isEmpty) = true := by rw [hx]; rfl
  rw [hh] at hr
  by_cases h43 : s[0] = 43
  · have HR := hid' (hr.trans (if_pos (by rw [h43])))
    have c43 : ((s[0].toNat : Int) == 43) = true := by rw [h43]; rfl
    have c45 : ((s[0].toNat : Int) == 45) = false := by rw [h43]; rfl
    clear hr hh h43; go_enter Tryz.func84, Tryz.ntmps84
    go_wp2_with fail
    refine HB.mono ?_; rintro e w1 ⟨rfl, X1⟩; go_wp2_with fail
    have hb0 := blk_new w1 (rdBox s ((1 : Nat) : Int))
    have hln : ∀ j, (digL (s.toList.drop j)).length ≤ s.size - j := fun j => by have := digL_len (s.toList.drop j); rw [List.length_drop, size_lst] at this; exact this
    have ha : 1 + (digL (s.toList.drop 1)).length ≤ s.size := by have := hln 1; omega
    have hna : (digL (s.toList.drop 1)).length ≤ 1 + (digL (s.toList.drop 1)).length := by omega
    have hv := accD_le 2147483648 (by omega) (digL (s.toList.drop 1)) (digL_all _) 0 (by omega) (by omega); refine (digits_any s 1 w1.heap.size _ 2147483648 hs hb0 (by omega) (by omega) (by omega)).mono ?_; rintro e w2 ⟨rfl, X2, hb2⟩; have X3 : Chg NoB w w2 := (X1.alloc (rdBox s ((1 : Nat) : Int))).trans' X2 (fun i hi e => by have := X1.size; omega); have hlb : w.heap.size ≤ w1.heap.size := X1.size; clear X1 X2 hb0 HB; have hr2 := HR.out; unfold readS at hr2; rw [size_lst] at hr2; generalize accD 2147483648 0 (digL (s.toList.drop 1)) = v at *; generalize (digL (s.toList.drop 1)).length = n at *; generalize 1 + n = a at *; generalize w1.heap.size = b at *; have HL := hid' hln; have HR2 := hid' hr2; clear hr2 HR hln; obtain ⟨v0, v1⟩ := hv; have R := cells_of hb2; have lb := blk_lt hb2
    by_cases b1 : a = s.size
    · subst b1
      by_cases b2 : 0 < n
      · have b2' : 0 < (n : Int) := by omega
        have HR3 := hid' (HR2.out.trans (if_pos ⟨rfl, b2⟩)); clear HR2
        by_cases b3 : 2147483647 < v
        · go_wp2_with fail
          go_ret3; exact ⟨by rw [HR3.out, if_pos b3]; rfl, X3⟩
        · have b3' : v ≤ 2147483647 := by omega
          go_wp2_with (go_at_call 113; refine (signed_any _ _ (by omega) (by omega) _).mono ?_; rintro e w' ⟨rfl, rfl⟩)
          go_ret3; exact ⟨by rw [HR3.out, if_neg (by omega)]; rfl, X3⟩
      · have b2' : (n : Int) ≤ 0 := by omega
        have HR3 := hid' (HR2.out.trans ((if_neg (fun h => b2 h.2)).trans (if_pos (.inl rfl)))); clear HR2; go_wp2_with fail
        go_ret3; exact ⟨by rw [HR3.out]; rfl, X3⟩
    have hlt : a < s.size := by omega
    have hlt' : (a : Int) < s.size := by omega
    have b1' : ((a : Int) == (s.size : Int)) = false := by simp; omega
    have b1'' : (a == s.size) = false := by simpa using b1
    have hg := lst_get s a hlt
    by_cases b4 : s[a] = 46
    rotate_left
    · have b4' : ((s[a].toNat : Int) != 46) = true := by
       simp only [bne_iff_ne, ne_eq]; intro e; exact b4 (UInt8.toNat_inj.1 (by simp; omega))
      have HR3 := hid' (HR2.out.trans ((if_neg (fun h => b1 h.1)).trans (if_pos (.inr (by rw [hg]; simpa using b4))))); clear hg b4 b1; go_wp2_with fail
      go_ret3; exact ⟨by rw [HR3.out]; rfl, X3⟩
    have b4' : ((s[a].toNat : Int) != 46) = false := by rw [b4]; rfl
    have HR3 := hid' (HR2.out.trans ((if_neg (fun h => b1 h.1)).trans (if_neg (by rintro (h | h); exact b1 h; exact h (by rw [hg, b4]))))); clear hg b4 b1 HR2; have Z := free_of hb2; go_wp2_with fail
    have hb3 := blk_set hb2 1 (.int .i64 ((a : Int) + 1)); simp only [List.setIfInBounds_toArray, List.set_cons_zero, List.set_cons_succ] at hb3; have X4 : Chg NoB w (w2.setCell ⟨b, 1, none⟩ (.int .i64 ((a : Int) + 1))) := X3.setCell (p := ⟨b, 1, none⟩) (.inr hlb) (.int .i64 ((a : Int) + 1)); generalize w2.setCell ⟨b, 1, none⟩ (.int .i64 ((a : Int) + 1)) = w3 at *; clear R Z lb X3 hb2
    have ha2 : a + 1 + (digL (s.toList.drop (a + 1))).length ≤ s.size := by have := HL.out (a + 1); omega
    have hw := accD_le 1000000000000 (by omega) (digL (s.toList.drop (a + 1))) (digL_all _) 0 (by omega) (by omega); refine (digits_any s (a + 1) b _ 0 hs hb3 (by omega) (by omega) (by omega)).mono ?_; rintro e w4 ⟨rfl, X5, hb4⟩; have X6 : Chg NoB w w4 := X4.trans' X5 (fun i hi e => by omega); clear X4 X5 hb3; have HD := fun (w : World) (hb : w.heap[b]? = some (rdBox s ((a + 1 : Nat) : Int))) => digits_any s (a + 1) b w 1000000000000 hs hb (by omega) (by omega) (by omega); have hr3 := HR3.out; generalize accD 0 0 (digL (s.toList.drop (a + 1))) = zz at *; generalize accD 1000000000000 0 (digL (s.toList.drop (a + 1))) = part at *; generalize (digL (s.toList.drop (a + 1))).length = m at *; have HR4 := hid' hr3; have HDD := hid' HD; clear hr3 HR3 HD; have R := cells_of hb4; have lb := blk_lt hb4; have Z := free_of hb4
    by_cases b5 : a + 1 + m = s.size
    rotate_left
    · have b5' : (((a + 1 + m : Nat) : Int) == (s.size : Int)) = false := by simp; omega
      have b5'' : (a + 1 + m == s.size) = false := by simpa using b5
      have b6' : (((a + 1 + m : Nat) : Int) != (s.size : Int)) = true := by simp; omega
      have b6'' : (a + 1 + m != s.size) = true := by simpa using b5
      have b7' : ((a : Int) + 1 + (m : Int) != (s.size : Int)) = true := by simp; omega
      have HR5 := hid' (HR4.out.trans (if_pos (.inl b5))); clear b5; go_wp2_with fail
      go_ret3; exact ⟨by rw [HR5.out]; rfl, X6⟩
    have b6' : (((a + 1 + m : Nat) : Int) != (s.size : Int)) = false := by simp; omega
    have b6'' : (a + 1 + m != s.size) = false := by simpa using b5
    have b7' : ((a : Int) + 1 + (m : Int) != (s.size : Int)) = false := by simp; omega
    by_cases b8 : n + m = 0
    · have b8' : (n : Int) + (m : Int) = 0 := by omega
      have b8'' : ((n : Int) + (m : Int) == 0) = true := by simpa using b8'
      have HR5 := hid' (HR4.out.trans (if_pos (.inr b8))); clear b5 b8 b8'; go_wp2_with fail
      go_ret3; exact ⟨by rw [HR5.out]; rfl, X6⟩
    have b8'' : ((n : Int) + (m : Int) == 0) = false := by simp; omega
    have HR5 := hid' (HR4.out.trans (if_neg (by rintro (h | h); exact h b5; exact b8 h))); clear b5 b8 HR4
    by_cases b9 : 12 < m
    · have b9' : 12 < (m : Int) := by omega
      go_wp2_with fail
      go_ret3; exact ⟨by rw [HR5.out, if_pos (.inl b9)]; rfl, X6⟩
    have b9' : (m : Int) ≤ 12 := by omega
    by_cases b10 : 16383 < v
    · go_wp2_with fail
      go_ret3; exact ⟨by rw [HR5.out, if_pos (.inr b10)]; rfl, X6⟩
    have b10' : v ≤ 16383 := by omega
    have HR6 := hid' (HR5.out.trans (if_neg (by rintro (h | h) <;> omega))); clear HR5; go_wp2_with fail
    have hb5 := blk_set hb4 1 (.int .i64 ((a : Int) + 1)); simp only [List.setIfInBounds_toArray, List.set_cons_zero, List.set_cons_succ] at hb5; have X7 : Chg NoB w (w4.setCell ⟨b, 1, none⟩ (.int .i64 ((a : Int) + 1))) := X6.setCell (p := ⟨b, 1, none⟩) (.inr hlb) (.int .i64 ((a : Int) + 1)); generalize w4.setCell ⟨b, 1, none⟩ (.int .i64 ((a : Int) + 1)) = w5 at *; clear R Z lb X6 hb4; refine (tens_any 12 (by omega) _).mono ?_; rintro e w6 ⟨rfl, rfl⟩; go_wp2_with fail
    refine (HDD.out _ hb5).mono ?_; rintro e w7 ⟨rfl, X8, -⟩; have X9 : Chg NoB w w7 := X7.trans' X8 (fun i hi e => by omega); clear X7 X8 hb5 HDD; obtain ⟨p0, p1⟩ := hw; have hp := pow_18 m (by omega); go_wp2_with fail
    refine (tens_any m (by omega) _).mono ?_; rintro e w8 ⟨rfl, rfl⟩; obtain ⟨t0, t1⟩ := hp; have hnn := nearest_any (part * 65536) (10 ^ m) (by omega) (by omega) t0 t1; have hnb := nearI_le (part * 65536) (10 ^ m) (by omega) t0; have hr6 := HR6.out; generalize nearI (part * 65536) (10 ^ m) = u at *; generalize (10 : Int) ^ m = tm at *; obtain ⟨u0, u1⟩ := hnb; have HR7 := hid' hr6; clear hr6 HR6; go_wp2_with fail
    refine (hnn _).mono ?_; rintro e w9 ⟨rfl, X10⟩; have X11 := X9.trans X10; clear X9 X10 hnn
    by_cases c1 : 1073741823 < v * 65536 + u
    · go_wp2_with fail
      go_ret3; exact ⟨by rw [HR7.out, if_pos c1]; rfl, X11⟩
    · have c1' : v * 65536 + u ≤ 1073741823 := by omega
      go_wp2_with (go_at_call 113; refine (signed_any _ _ (by omega) (by omega) _).mono ?_; rintro e w' ⟨rfl, rfl⟩)
      go_ret3; exact ⟨by rw [HR7.out, if_neg (by omega)]; rfl, X11⟩
  have c43 : ((s[0].toNat : Int) == 43) = false := by
   simp only [beq_eq_false_iff_ne, ne_eq]; intro e; exact h43 (UInt8.toNat_inj.1 (by simp; omega))
  by_cases h45 : s[0] = 45
  · have HR := hid' (hr.trans ((if_neg (by simpa using h43)).trans (if_pos (by rw [h45]))))
    have c45 : ((s[0].toNat : Int) == 45) = true := by rw [h45]; rfl
    clear hr hh h43 h45; go_enter Tryz.func84, Tryz.ntmps84
    go_wp2_with fail
    refine HB.mono ?_; rintro e w1 ⟨rfl, X1⟩; go_wp2_with fail
    have hb0 := blk_new w1 (rdBox s ((1 : Nat) : Int))
    have hln : ∀ j, (digL (s.toList.drop j)).length ≤ s.size - j := fun j => by have := digL_len (s.toList.drop j); rw [List.length_drop, size_lst] at this; exact this
    have ha : 1 + (digL (s.toList.drop 1)).length ≤ s.size := by have := hln 1; omega
    have hna : (digL (s.toList.drop 1)).length ≤ 1 + (digL (s.toList.drop 1)).length := by omega
    have hv := accD_le 2147483648 (by omega) (digL (s.toList.drop 1)) (digL_all _) 0 (by omega) (by omega); refine (digits_any s 1 w1.heap.size _ 2147483648 hs hb0 (by omega) (by omega) (by omega)).mono ?_; rintro e w2 ⟨rfl, X2, hb2⟩; have X3 : Chg NoB w w2 := (X1.alloc (rdBox s ((1 : Nat) : Int))).trans' X2 (fun i hi e => by have := X1.size; omega); have hlb : w.heap.size ≤ w1.heap.size := X1.size; clear X1 X2 hb0 HB; have hr2 := HR.out; unfold readS at hr2; rw [size_lst] at hr2; generalize accD 2147483648 0 (digL (s.toList.drop 1)) = v at *; generalize (digL (s.toList.drop 1)).length = n at *; generalize 1 + n = a at *; generalize w1.heap.size = b at *; have HL := hid' hln; have HR2 := hid' hr2; clear hr2 HR hln; obtain ⟨v0, v1⟩ := hv; have R := cells_of hb2; have lb := blk_lt hb2
    by_cases b1 : a = s.size
    · subst b1
      by_cases b2 : 0 < n
      · have b2' : 0 < (n : Int) := by omega
        have HR3 := hid' (HR2.out.trans (if_pos ⟨rfl, b2⟩)); clear HR2
        by_cases b3 : 2147483647 < v
        · go_wp2_with fail
          go_ret3; exact ⟨by rw [HR3.out, if_pos b3]; rfl, X3⟩
        · have b3' : v ≤ 2147483647 := by omega
          go_wp2_with (go_at_call 113; refine (signed_any _ _ (by omega) (by omega) _).mono ?_; rintro e w' ⟨rfl, rfl⟩)
          go_ret3; exact ⟨by rw [HR3.out, if_neg (by omega)]; rfl, X3⟩
      · have b2' : (n : Int) ≤ 0 := by omega
        have HR3 := hid' (HR2.out.trans ((if_neg (fun h => b2 h.2)).trans (if_pos (.inl rfl)))); clear HR2; go_wp2_with fail
        go_ret3; exact ⟨by rw [HR3.out]; rfl, X3⟩
    have hlt : a < s.size := by omega
    have hlt' : (a : Int) < s.size := by omega
    have b1' : ((a : Int) == (s.size : Int)) = false := by simp; omega
    have b1'' : (a == s.size) = false := by simpa using b1
    have hg := lst_get s a hlt
    by_cases b4 : s[a] = 46
    rotate_left
    · have b4' : ((s[a].toNat : Int) != 46) = true := by
       simp only [bne_iff_ne, ne_eq]; intro e; exact b4 (UInt8.toNat_inj.1 (by simp; omega))
      have HR3 := hid' (HR2.out.trans ((if_neg (fun h => b1 h.1)).trans (if_pos (.inr (by rw [hg]; simpa using b4))))); clear hg b4 b1; go_wp2_with fail
      go_ret3; exact ⟨by rw [HR3.out]; rfl, X3⟩
    have b4' : ((s[a].toNat : Int) != 46) = false := by rw [b4]; rfl
    have HR3 := hid' (HR2.out.trans ((if_neg (fun h => b1 h.1)).trans (if_neg (by rintro (h | h); exact b1 h; exact h (by rw [hg, b4]))))); clear hg b4 b1 HR2; have Z := free_of hb2; go_wp2_with fail
    have hb3 := blk_set hb2 1 (.int .i64 ((a : Int) + 1)); simp only [List.setIfInBounds_toArray, List.set_cons_zero, List.set_cons_succ] at hb3; have X4 : Chg NoB w (w2.setCell ⟨b, 1, none⟩ (.int .i64 ((a : Int) + 1))) := X3.setCell (p := ⟨b, 1, none⟩) (.inr hlb) (.int .i64 ((a : Int) + 1)); generalize w2.setCell ⟨b, 1, none⟩ (.int .i64 ((a : Int) + 1)) = w3 at *; clear R Z lb X3 hb2
    have ha2 : a + 1 + (digL (s.toList.drop (a + 1))).length ≤ s.size := by have := HL.out (a + 1); omega
    have hw := accD_le 1000000000000 (by omega) (digL (s.toList.drop (a + 1))) (digL_all _) 0 (by omega) (by omega); refine (digits_any s (a + 1) b _ 0 hs hb3 (by omega) (by omega) (by omega)).mono ?_; rintro e w4 ⟨rfl, X5, hb4⟩; have X6 : Chg NoB w w4 := X4.trans' X5 (fun i hi e => by omega); clear X4 X5 hb3; have HD := fun (w : World) (hb : w.heap[b]? = some (rdBox s ((a + 1 : Nat) : Int))) => digits_any s (a + 1) b w 1000000000000 hs hb (by omega) (by omega) (by omega); have hr3 := HR3.out; generalize accD 0 0 (digL (s.toList.drop (a + 1))) = zz at *; generalize accD 1000000000000 0 (digL (s.toList.drop (a + 1))) = part at *; generalize (digL (s.toList.drop (a + 1))).length = m at *; have HR4 := hid' hr3; have HDD := hid' HD; clear hr3 HR3 HD; have R := cells_of hb4; have lb := blk_lt hb4; have Z := free_of hb4
    by_cases b5 : a + 1 + m = s.size
    rotate_left
    · have b5' : (((a + 1 + m : Nat) : Int) == (s.size : Int)) = false := by simp; omega
      have b5'' : (a + 1 + m == s.size) = false := by simpa using b5
      have b6' : (((a + 1 + m : Nat) : Int) != (s.size : Int)) = true := by simp; omega
      have b6'' : (a + 1 + m != s.size) = true := by simpa using b5
      have b7' : ((a : Int) + 1 + (m : Int) != (s.size : Int)) = true := by simp; omega
      have HR5 := hid' (HR4.out.trans (if_pos (.inl b5))); clear b5; go_wp2_with fail
      go_ret3; exact ⟨by rw [HR5.out]; rfl, X6⟩
    have b6' : (((a + 1 + m : Nat) : Int) != (s.size : Int)) = false := by simp; omega
    have b6'' : (a + 1 + m != s.size) = false := by simpa using b5
    have b7' : ((a : Int) + 1 + (m : Int) != (s.size : Int)) = false := by simp; omega
    by_cases b8 : n + m = 0
    · have b8' : (n : Int) + (m : Int) = 0 := by omega
      have b8'' : ((n : Int) + (m : Int) == 0) = true := by simpa using b8'
      have HR5 := hid' (HR4.out.trans (if_pos (.inr b8))); clear b5 b8 b8'; go_wp2_with fail
      go_ret3; exact ⟨by rw [HR5.out]; rfl, X6⟩
    have b8'' : ((n : Int) + (m : Int) == 0) = false := by simp; omega
    have HR5 := hid' (HR4.out.trans (if_neg (by rintro (h | h); exact h b5; exact b8 h))); clear b5 b8 HR4
    by_cases b9 : 12 < m
    · have b9' : 12 < (m : Int) := by omega
      go_wp2_with fail
      go_ret3; exact ⟨by rw [HR5.out, if_pos (.inl b9)]; rfl, X6⟩
    have b9' : (m : Int) ≤ 12 := by omega
    by_cases b10 : 16383 < v
    · go_wp2_with fail
      go_ret3; exact ⟨by rw [HR5.out, if_pos (.inr b10)]; rfl, X6⟩
    have b10' : v ≤ 16383 := by omega
    have HR6 := hid' (HR5.out.trans (if_neg (by rintro (h | h) <;> omega))); clear HR5; go_wp2_with fail
    have hb5 := blk_set hb4 1 (.int .i64 ((a : Int) + 1)); simp only [List.setIfInBounds_toArray, List.set_cons_zero, List.set_cons_succ] at hb5; have X7 : Chg NoB w (w4.setCell ⟨b, 1, none⟩ (.int .i64 ((a : Int) + 1))) := X6.setCell (p := ⟨b, 1, none⟩) (.inr hlb) (.int .i64 ((a : Int) + 1)); generalize w4.setCell ⟨b, 1, none⟩ (.int .i64 ((a : Int) + 1)) = w5 at *; clear R Z lb X6 hb4; refine (tens_any 12 (by omega) _).mono ?_; rintro e w6 ⟨rfl, rfl⟩; go_wp2_with fail
    refine (HDD.out _ hb5).mono ?_; rintro e w7 ⟨rfl, X8, -⟩; have X9 : Chg NoB w w7 := X7.trans' X8 (fun i hi e => by omega); clear X7 X8 hb5 HDD; obtain ⟨p0, p1⟩ := hw; have hp := pow_18 m (by omega); go_wp2_with fail
    refine (tens_any m (by omega) _).mono ?_; rintro e w8 ⟨rfl, rfl⟩; obtain ⟨t0, t1⟩ := hp; have hnn := nearest_any (part * 65536) (10 ^ m) (by omega) (by omega) t0 t1; have hnb := nearI_le (part * 65536) (10 ^ m) (by omega) t0; have hr6 := HR6.out; generalize nearI (part * 65536) (10 ^ m) = u at *; generalize (10 : Int) ^ m = tm at *; obtain ⟨u0, u1⟩ := hnb; have HR7 := hid' hr6; clear hr6 HR6; go_wp2_with fail
    refine (hnn _).mono ?_; rintro e w9 ⟨rfl, X10⟩; have X11 := X9.trans X10; clear X9 X10 hnn
    by_cases c1 : 1073741823 < v * 65536 + u
    · go_wp2_with fail
      go_ret3; exact ⟨by rw [HR7.out, if_pos c1]; rfl, X11⟩
    · have c1' : v * 65536 + u ≤ 1073741823 := by omega
      go_wp2_with (go_at_call 113; refine (signed_any _ _ (by omega) (by omega) _).mono ?_; rintro e w' ⟨rfl, rfl⟩)
      go_ret3; exact ⟨by rw [HR7.out, if_neg (by omega)]; rfl, X11⟩
  have c45 : ((s[0].toNat : Int) == 45) = false := by
   simp only [beq_eq_false_iff_ne, ne_eq]; intro e; exact h45 (UInt8.toNat_inj.1 (by simp; omega))
  have HR := hid' (hr.trans ((if_neg (by simpa using h43)).trans (if_neg (by simpa using h45)))); clear hr hh h43 h45; go_enter Tryz.func84, Tryz.ntmps84
  go_wp2_with fail
  refine HB.mono ?_; rintro e w1 ⟨rfl, X1⟩; go_wp2_with fail
  have hb0 := blk_new w1 (rdBox s ((0 : Nat) : Int))
  have hln : ∀ j, (digL (s.toList.drop j)).length ≤ s.size - j := fun j => by have := digL_len (s.toList.drop j); rw [List.length_drop, size_lst] at this; exact this
  have ha : 0 + (digL (s.toList.drop 0)).length ≤ s.size := by have := hln 0; omega
  have hna : (digL (s.toList.drop 0)).length ≤ 0 + (digL (s.toList.drop 0)).length := by omega
  have hv := accD_le 2147483648 (by omega) (digL (s.toList.drop 0)) (digL_all _) 0 (by omega) (by omega); refine (digits_any s 0 w1.heap.size _ 2147483648 hs hb0 (by omega) (by omega) (by omega)).mono ?_; rintro e w2 ⟨rfl, X2, hb2⟩; have X3 : Chg NoB w w2 := (X1.alloc (rdBox s ((0 : Nat) : Int))).trans' X2 (fun i hi e => by have := X1.size; omega); have hlb : w.heap.size ≤ w1.heap.size := X1.size; clear X1 X2 hb0 HB; have hr2 := HR.out; unfold readS at hr2; rw [size_lst] at hr2; generalize accD 2147483648 0 (digL (s.toList.drop 0)) = v at *; generalize (digL (s.toList.drop 0)).length = n at *; generalize 0 + n = a at *; generalize w1.heap.size = b at *; have HL := hid' hln; have HR2 := hid' hr2; clear hr2 HR hln; obtain ⟨v0, v1⟩ := hv; have R := cells_of hb2; have lb := blk_lt hb2
  by_cases b1 : a = s.size
  · subst b1
    by_cases b2 : 0 < n
    · have b2' : 0 < (n : Int) := by omega
      have HR3 := hid' (HR2.out.trans (if_pos ⟨rfl, b2⟩)); clear HR2
      by_cases b3 : 2147483647 < v
      · go_wp2_with fail
        go_ret3; exact ⟨by rw [HR3.out, if_pos b3]; rfl, X3⟩
      · have b3' : v ≤ 2147483647 := by omega
        go_wp2_with (go_at_call 113; refine (signed_any _ _ (by omega) (by omega) _).mono ?_; rintro e w' ⟨rfl, rfl⟩)
        go_ret3; exact ⟨by rw [HR3.out, if_neg (by omega)]; rfl, X3⟩
    · have b2' : (n : Int) ≤ 0 := by omega
      have HR3 := hid' (HR2.out.trans ((if_neg (fun h => b2 h.2)).trans (if_pos (.inl rfl)))); clear HR2; go_wp2_with fail
      go_ret3; exact ⟨by rw [HR3.out]; rfl, X3⟩
  have hlt : a < s.size := by omega
  have hlt' : (a : Int) < s.size := by omega
  have b1' : ((a : Int) == (s.size : Int)) = false := by simp; omega
  have b1'' : (a == s.size) = false := by simpa using b1
  have hg := lst_get s a hlt
  by_cases b4 : s[a] = 46
  rotate_left
  · have b4' : ((s[a].toNat : Int) != 46) = true := by
     simp only [bne_iff_ne, ne_eq]; intro e; exact b4 (UInt8.toNat_inj.1 (by simp; omega))
    have HR3 := hid' (HR2.out.trans ((if_neg (fun h => b1 h.1)).trans (if_pos (.inr (by rw [hg]; simpa using b4))))); clear hg b4 b1; go_wp2_with fail
    go_ret3; exact ⟨by rw [HR3.out]; rfl, X3⟩
  have b4' : ((s[a].toNat : Int) != 46) = false := by rw [b4]; rfl
  have HR3 := hid' (HR2.out.trans ((if_neg (fun h => b1 h.1)).trans (if_neg (by rintro (h | h); exact b1 h; exact h (by rw [hg, b4]))))); clear hg b4 b1 HR2; have Z := free_of hb2; go_wp2_with fail
  have hb3 := blk_set hb2 1 (.int .i64 ((a : Int) + 1)); simp only [List.setIfInBounds_toArray, List.set_cons_zero, List.set_cons_succ] at hb3; have X4 : Chg NoB w (w2.setCell ⟨b, 1, none⟩ (.int .i64 ((a : Int) + 1))) := X3.setCell (p := ⟨b, 1, none⟩) (.inr hlb) (.int .i64 ((a : Int) + 1)); generalize w2.setCell ⟨b, 1, none⟩ (.int .i64 ((a : Int) + 1)) = w3 at *; clear R Z lb X3 hb2
  have ha2 : a + 1 + (digL (s.toList.drop (a + 1))).length ≤ s.size := by have := HL.out (a + 1); omega
  have hw := accD_le 1000000000000 (by omega) (digL (s.toList.drop (a + 1))) (digL_all _) 0 (by omega) (by omega); refine (digits_any s (a + 1) b _ 0 hs hb3 (by omega) (by omega) (by omega)).mono ?_; rintro e w4 ⟨rfl, X5, hb4⟩; have X6 : Chg NoB w w4 := X4.trans' X5 (fun i hi e => by omega); clear X4 X5 hb3; have HD := fun (w : World) (hb : w.heap[b]? = some (rdBox s ((a + 1 : Nat) : Int))) => digits_any s (a + 1) b w 1000000000000 hs hb (by omega) (by omega) (by omega); have hr3 := HR3.out; generalize accD 0 0 (digL (s.toList.drop (a + 1))) = zz at *; generalize accD 1000000000000 0 (digL (s.toList.drop (a + 1))) = part at *; generalize (digL (s.toList.drop (a + 1))).length = m at *; have HR4 := hid' hr3; have HDD := hid' HD; clear hr3 HR3 HD; have R := cells_of hb4; have lb := blk_lt hb4; have Z := free_of hb4
  by_cases b5 : a + 1 + m = s.size
  rotate_left
  · have b5' : (((a + 1 + m : Nat) : Int) == (s.size : Int)) = false := by simp; omega
    have b5'' : (a + 1 + m == s.size) = false := by simpa using b5
    have b6' : (((a + 1 + m : Nat) : Int) != (s.size : Int)) = true := by simp; omega
    have b6'' : (a + 1 + m != s.size) = true := by simpa using b5
    have b7' : ((a : Int) + 1 + (m : Int) != (s.size : Int)) = true := by simp; omega
    have HR5 := hid' (HR4.out.trans (if_pos (.inl b5))); clear b5; go_wp2_with fail
    go_ret3; exact ⟨by rw [HR5.out]; rfl, X6⟩
  have b6' : (((a + 1 + m : Nat) : Int) != (s.size : Int)) = false := by simp; omega
  have b6'' : (a + 1 + m != s.size) = false := by simpa using b5
  have b7' : ((a : Int) + 1 + (m : Int) != (s.size : Int)) = false := by simp; omega
  by_cases b8 : n + m = 0
  · have b8' : (n : Int) + (m : Int) = 0 := by omega
    have b8'' : ((n : Int) + (m : Int) == 0) = true := by simpa using b8'
    have HR5 := hid' (HR4.out.trans (if_pos (.inr b8))); clear b5 b8 b8'; go_wp2_with fail
    go_ret3; exact ⟨by rw [HR5.out]; rfl, X6⟩
  have b8'' : ((n : Int) + (m : Int) == 0) = false := by simp; omega
  have HR5 := hid' (HR4.out.trans (if_neg (by rintro (h | h); exact h b5; exact b8 h))); clear b5 b8 HR4
  by_cases b9 : 12 < m
  · have b9' : 12 < (m : Int) := by omega
    go_wp2_with fail
    go_ret3; exact ⟨by rw [HR5.out, if_pos (.inl b9)]; rfl, X6⟩
  have b9' : (m : Int) ≤ 12 := by omega
  by_cases b10 : 16383 < v
  · go_wp2_with fail
    go_ret3; exact ⟨by rw [HR5.out, if_pos (.inr b10)]; rfl, X6⟩
  have b10' : v ≤ 16383 := by omega
  have HR6 := hid' (HR5.out.trans (if_neg (by rintro (h | h) <;> omega))); clear HR5; go_wp2_with fail
  have hb5 := blk_set hb4 1 (.int .i64 ((a : Int) + 1)); simp only [List.setIfInBounds_toArray, List.set_cons_zero, List.set_cons_succ] at hb5; have X7 : Chg NoB w (w4.setCell ⟨b, 1, none⟩ (.int .i64 ((a : Int) + 1))) := X6.setCell (p := ⟨b, 1, none⟩) (.inr hlb) (.int .i64 ((a : Int) + 1)); generalize w4.setCell ⟨b, 1, none⟩ (.int .i64 ((a : Int) + 1)) = w5 at *; clear R Z lb X6 hb4; refine (tens_any 12 (by omega) _).mono ?_; rintro e w6 ⟨rfl, rfl⟩; go_wp2_with fail
  refine (HDD.out _ hb5).mono ?_; rintro e w7 ⟨rfl, X8, -⟩; have X9 : Chg NoB w w7 := X7.trans' X8 (fun i hi e => by omega); clear X7 X8 hb5 HDD; obtain ⟨p0, p1⟩ := hw; have hp := pow_18 m (by omega); go_wp2_with fail
  refine (tens_any m (by omega) _).mono ?_; rintro e w8 ⟨rfl, rfl⟩; obtain ⟨t0, t1⟩ := hp; have hnn := nearest_any (part * 65536) (10 ^ m) (by omega) (by omega) t0 t1; have hnb := nearI_le (part * 65536) (10 ^ m) (by omega) t0; have hr6 := HR6.out; generalize nearI (part * 65536) (10 ^ m) = u at *; generalize (10 : Int) ^ m = tm at *; obtain ⟨u0, u1⟩ := hnb; have HR7 := hid' hr6; clear hr6 HR6; go_wp2_with fail
  refine (hnn _).mono ?_; rintro e w9 ⟨rfl, X10⟩; have X11 := X9.trans X10; clear X9 X10 hnn
  by_cases c1 : 1073741823 < v * 65536 + u
  · go_wp2_with fail
    go_ret3; exact ⟨by rw [HR7.out, if_pos c1]; rfl, X11⟩
  · have c1' : v * 65536 + u ≤ 1073741823 := by omega
    go_wp2_with (go_at_call 113; refine (signed_any _ _ (by omega) (by omega) _).mono ?_; rintro e w' ⟨rfl, rfl⟩)
    go_ret3; exact ⟨by rw [HR7.out, if_neg (by omega)]; rfl, X11⟩
end Go.Proofs.YtpiomapnmempoaaGreat
