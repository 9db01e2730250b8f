/- Parts of the proof: Trd, Rb6. -/
import Derived.Test.YtoogmimbmgdflaaGreatY02
namespace Go.Proofs.YtoogmimbmgdflaaGreat
open Go.RowKit
def sgnI (b : Bool) (v : Int) : Int := if b = true then -v else v
def readS (l : List UInt8) (k : Nat) (below : Bool) : Int × Int × Int :=
 if k + (digL (l.drop k)).length = l.length ∧ 0 < (digL (l.drop k)).length then
  if 2147483647 < accD 2147483648 0 (digL (l.drop k)) then (0, 0, 2) else (1, sgnI below (accD 2147483648 0 (digL (l.drop k))), 0)
 else if k + (digL (l.drop k)).length = l.length ∨ l[k + (digL (l.drop k)).length]? ≠ some 46 then (0, 0, 3)
 else if k + (digL (l.drop k)).length + 1 + (digL (l.drop (k + (digL (l.drop k)).length + 1))).length ≠ l.length ∨ (digL (l.drop k)).length + (digL (l.drop (k + (digL (l.drop k)).length + 1))).length = 0 then (0, 0, 3)
 else if 12 < (digL (l.drop (k + (digL (l.drop k)).length + 1))).length ∨ 16383 < accD 2147483648 0 (digL (l.drop k)) then (0, 0, 2)
 else if 1073741823 < accD 2147483648 0 (digL (l.drop k)) * 65536 + nearI (accD 1000000000000 0 (digL (l.drop (k + (digL (l.drop k)).length + 1))) * 65536) (10 ^ (digL (l.drop (k + (digL (l.drop k)).length + 1))).length) then (0, 0, 2)
 else (2, sgnI below (accD 2147483648 0 (digL (l.drop k)) * 65536 + nearI (accD 1000000000000 0 (digL (l.drop (k + (digL (l.drop k)).length + 1))) * 65536) (10 ^ (digL (l.drop (k + (digL (l.drop k)).length + 1))).length)), 0)
def readF (l : List UInt8) : Int × Int × Int :=
 match basedF l with
 | some v => if 2147483647 < v then (0, 0, 2) else (1, v, 0)
 | none => if l.head? = some 43 then readS l 1 false else if l.head? = some 45 then readS l 1 true else readS l 0 false
abbrev readV (x : Int × Int × Int) : Value := .tuple #[.int .i64 x.1, .int .i64 x.2.1, .int .i64 x.2.2]
theorem nearI_le (a b : Int) (h0 : 0 ≤ a) (h2 : 1 ≤ b) : 0 ≤ nearI a b ∧ nearI a b ≤ a + 1 := by
 have q0 : 0 ≤ a / b := Int.ediv_nonneg h0 (by omega); have q1 : a / b ≤ a := Int.ediv_le_self b h0; unfold nearI
 split <;> omega
set_option maxRecDepth 100000 in
set_option maxHeartbeats 8000000 in
theorem read_any (s : ByteArray) (hs : s.size ≤ 9223372036854775807) (w : World) :
 Calls Tryz.prog 72 #[.string s] w fun e w' => e = .returned (readV (readF s.toList)) ∧ Chg NoB w w' := by
 have HB := based_any s hs w
 cases hbf : basedF s.toList with
 | some v =>
  have hr : readF s.toList = if 2147483647 < v then (0, 0, 2) else (1, v, 0) := by unfold readF; rw [hbf]
  have HR := hid' hr; rw [hbf] at HB; simp only [basedV] at HB; clear hr hbf
  by_cases hv : 2147483647 < v
  · go_enter Tryz.func72, Tryz.ntmps72
    go_wp2_with fail
    refine HB.mono ?_; rintro e w1 ⟨rfl, X1⟩; go_wp2_with fail
    go_ret3; exact ⟨by rw [HR.out, if_pos hv]; rfl, X1⟩
  · have hv' : v ≤ 2147483647 := by omega
    go_enter Tryz.func72, Tryz.ntmps72
    go_wp2_with fail
    refine HB.mono ?_; rintro e w1 ⟨rfl, X1⟩; go_wp2_with fail
    go_ret3; exact ⟨by rw [HR.out, if_neg (by omega)]; rfl, X1⟩
 | none =>
  have hr : readF s.toList = if s.toList.head? = some 43 then readS s.toList 1 false else if s.toList.head? = some 45 then readS s.toList 1 true else readS s.toList 0 false := by unfold readF; rw [hbf]
  rw [hbf] at HB; simp only [basedV] at HB; clear hbf
  by_cases h0 : s.size = 0
  · have he : s.toList = [] := List.eq_nil_of_length_eq_zero (by rw [size_lst]; exact h0)
    have hf : readF s.toList = readS s.toList 0 false := by rw [hr, he]; rfl
    have HR := hid' hf
    have hx : s.toList.isEmpty = true := by rw [he]; rfl
    have hx' : (!s.toList.isEmpty) = false := by rw [hx]; rfl
    clear hr hf he; go_enter Tryz.func72, Tryz.ntmps72
    go_wp2_with fail
    refine HB.mono ?_; rintro e w1 ⟨rfl, X1⟩; go_wp2_with fail
    have hb0 := blk_new w1 (rdBox s ((0 : Nat) : Int))
    have hln : ∀ j, (digL (s.toList.drop j)).length ≤ s.size - j := fun j => by have := digL_len (s.toList.drop j); rw [List.length_drop, size_lst] at this; exact this
    have ha : 0 + (digL (s.toList.drop 0)).length ≤ s.size := by have := hln 0; omega
    have hna : (digL (s.toList.drop 0)).length ≤ 0 + (digL (s.toList.drop 0)).length := by omega
    have hv := accD_le 2147483648 (by omega) (digL (s.toList.drop 0)) (digL_all _) 0 (by omega) (by omega); refine (digits_any s 0 w1.heap.size _ 2147483648 hs hb0 (by omega) (by omega) (by omega)).mono ?_; rintro e w2 ⟨rfl, X2, hb2⟩; have X3 : Chg NoB w w2 := (X1.alloc (rdBox s ((0 : Nat) : Int))).trans' X2 (fun i hi e => by have := X1.size; omega); have hlb : w.heap.size ≤ w1.heap.size := X1.size; clear X1 X2 hb0 HB; have hr2 := HR.out; unfold readS at hr2; rw [size_lst] at hr2; generalize accD 2147483648 0 (digL (s.toList.drop 0)) = v at *; generalize (digL (s.toList.drop 0)).length = n at *; generalize 0 + n = a at *; generalize w1.heap.size = b at *; have HL := hid' hln; have HR2 := hid' hr2; clear hr2 HR hln; obtain ⟨v0, v1⟩ := hv; have R := cells_of hb2; have lb := blk_lt hb2
    obtain rfl : a = s.size := by omega
    obtain rfl : n = 0 := by omega
    have HR3 := hid' (HR2.out.trans ((if_neg (fun h => absurd h.2 (by omega))).trans (if_pos (.inl rfl)))); clear HR2 h0; go_wp2_with fail
    go_ret3; exact ⟨by rw [HR3.out]; rfl, X3⟩
  have hsz : 0 < s.size := by omega
  have hsz' : 0 < (s.size : Int) := by omega
  have hh : s.toList.head? = some s[0] := by rw [List.head?_eq_getElem?]; exact lst_get s 0 hsz
  have hx : s.toList.isEmpty = false := by
   cases hl : s.toList with
   | nil => rw [hl] at hh; simp at hh
   | cons => rfl
  have hx' : (!s.toList.isEmpty) = true := by rw [hx]; rfl
  rw [hh] at hr
  by_cases h43 : s[0] = 43
  · have HR := hid' (hr.trans (if_pos (by rw [h43])))
    have c43 : ((s[0].toNat : Int) == 43) = true := by rw [h43]; rfl
    have c45 : ((s[0].toNat : Int) == 45) = false := by rw [h43]; rfl
    clear hr hh h43; go_enter Tryz.func72, Tryz.ntmps72
    go_wp2_with fail
    refine HB.mono ?_; rintro e w1 ⟨rfl, X1⟩; go_wp2_with fail
    have hb0 := blk_new w1 (rdBox s ((1 : Nat) : Int))
    have hln : ∀ j, (digL (s.toList.drop j)).length ≤ s.size - j := fun j => by have := digL_len (s.toList.drop j); rw [List.length_drop, size_lst] at this; exact this
    have ha : 1 + (digL (s.toList.drop 1)).length ≤ s.size := by have := hln 1; omega
    have hna : (digL (s.toList.drop 1)).length ≤ 1 + (digL (s.toList.drop 1)).length := by omega
    have hv := accD_le 2147483648 (by omega) (digL (s.toList.drop 1)) (digL_all _) 0 (by omega) (by omega); refine (digits_any s 1 w1.heap.size _ 2147483648 hs hb0 (by omega) (by omega) (by omega)).mono ?_; rintro e w2 ⟨rfl, X2, hb2⟩; have X3 : Chg NoB w w2 := (X1.alloc (rdBox s ((1 : Nat) : Int))).trans' X2 (fun i hi e => by have := X1.size; omega); have hlb : w.heap.size ≤ w1.heap.size := X1.size; clear X1 X2 hb0 HB; have hr2 := HR.out; unfold readS at hr2; rw [size_lst] at hr2; generalize accD 2147483648 0 (digL (s.toList.drop 1)) = v at *; generalize (digL (s.toList.drop 1)).length = n at *; generalize 1 + n = a at *; generalize w1.heap.size = b at *; have HL := hid' hln; have HR2 := hid' hr2; clear hr2 HR hln; obtain ⟨v0, v1⟩ := hv; have R := cells_of hb2; have lb := blk_lt hb2
    by_cases b1 : a = s.size
    · subst b1
      by_cases b2 : 0 < n
      · have b2' : 0 < (n : Int) := by omega
        have HR3 := hid' (HR2.out.trans (if_pos ⟨rfl, b2⟩)); clear HR2
        by_cases b3 : 2147483647 < v
        · go_wp2_with fail
          go_ret3; exact ⟨by rw [HR3.out, if_pos b3]; rfl, X3⟩
        · have b3' : v ≤ 2147483647 := by omega
          go_wp2_with (go_at_call 114; refine (signed_any _ _ (by omega) (by omega) _).mono ?_; rintro e w' ⟨rfl, rfl⟩)
          go_ret3; exact ⟨by rw [HR3.out, if_neg (by omega)]; rfl, X3⟩
      · have b2' : (n : Int) ≤ 0 := by omega
        have HR3 := hid' (HR2.out.trans ((if_neg (fun h => b2 h.2)).trans (if_pos (.inl rfl)))); clear HR2; go_wp2_with fail
        go_ret3; exact ⟨by rw [HR3.out]; rfl, X3⟩
    have hlt : a < s.size := by omega
    have hlt' : (a : Int) < s.size := by omega
    have b1' : ((a : Int) == (s.size : Int)) = false := by simp; omega
    have b1'' : (a == s.size) = false := by simpa using b1
    have hg := lst_get s a hlt
    by_cases b4 : s[a] = 46
    rotate_left
    · have b4' : ((s[a].toNat : Int) != 46) = true := by
       simp only [bne_iff_ne, ne_eq]; intro e; exact b4 (UInt8.toNat_inj.1 (by simp; omega))
      have HR3 := hid' (HR2.out.trans ((if_neg (fun h => b1 h.1)).trans (if_pos (.inr (by rw [hg]; simpa using b4))))); clear hg b4 b1; go_wp2_with fail
      go_ret3; exact ⟨by rw [HR3.out]; rfl, X3⟩
    have b4' : ((s[a].toNat : Int) != 46) = false := by rw [b4]; rfl
    have HR3 := hid' (HR2.out.trans ((if_neg (fun h => b1 h.1)).trans (if_neg (by rintro (h | h); exact b1 h; exact h (by rw [hg, b4]))))); clear hg b4 b1 HR2; have Z := free_of hb2; go_wp2_with fail
    have hb3 := blk_set hb2 1 (.int .i64 ((a : Int) + 1)); simp only [List.setIfInBounds_toArray, List.set_cons_zero, List.set_cons_succ] at hb3; have X4 : Chg NoB w (w2.setCell ⟨b, 1, none⟩ (.int .i64 ((a : Int) + 1))) := X3.setCell (p := ⟨b, 1, none⟩) (.inr hlb) (.int .i64 ((a : Int) + 1)); generalize w2.setCell ⟨b, 1, none⟩ (.int .i64 ((a : Int) + 1)) = w3 at *; clear R Z lb X3 hb2
    have ha2 : a + 1 + (digL (s.toList.drop (a + 1))).length ≤ s.size := by have := HL.out (a + 1); omega
    have hw := accD_le 1000000000000 (by omega) (digL (s.toList.drop (a + 1))) (digL_all _) 0 (by omega) (by omega); refine (digits_any s (a + 1) b _ 0 hs hb3 (by omega) (by omega) (by omega)).mono ?_; rintro e w4 ⟨rfl, X5, hb4⟩; have X6 : Chg NoB w w4 := X4.trans' X5 (fun i hi e => by omega); clear X4 X5 hb3; have HD := fun (w : World) (hb : w.heap[b]? = some (rdBox s ((a + 1 : Nat) : Int))) => digits_any s (a + 1) b w 1000000000000 hs hb (by omega) (by omega) (by omega); have hr3 := HR3.out; generalize accD 0 0 (digL (s.toList.drop (a + 1))) = zz at *; generalize accD 1000000000000 0 (digL (s.toList.drop (a + 1))) = part at *; generalize (digL (s.toList.drop (a + 1))).length = m at *; have HR4 := hid' hr3; have HDD := hid' HD; clear hr3 HR3 HD; have R := cells_of hb4; have lb := blk_lt hb4; have Z := free_of hb4
    by_cases b5 : a + 1 + m = s.size
    rotate_left
    · have b5' : (((a + 1 + m : Nat) : Int) == (s.size : Int)) = false := by simp; omega
      have b5'' : (a + 1 + m == s.size) = false := by simpa using b5
      have b6' : (((a + 1 + m : Nat) : Int) != (s.size : Int)) = true := by simp; omega
      have b6'' : (a + 1 + m != s.size) = true := by simpa using b5
      have b7' : ((a : Int) + 1 + (m : Int) != (s.size : Int)) = true := by simp; omega
      have HR5 := hid' (HR4.out.trans (if_pos (.inl b5))); clear b5; go_wp2_with fail
      go_ret3; exact ⟨by rw [HR5.out]; rfl, X6⟩
    have b6' : (((a + 1 + m : Nat) : Int) != (s.size : Int)) = false := by simp; omega
    have b6'' : (a + 1 + m != s.size) = false := by simpa using b5
    have b7' : ((a : Int) + 1 + (m : Int) != (s.size : Int)) = false := by simp; omega
    by_cases b8 : n + m = 0
    · have b8' : (n : Int) + (m : Int) = 0 := by omega
      have b8'' : ((n : Int) + (m : Int) == 0) = true := by simpa using b8'
      have HR5 := hid' (HR4.out.trans (if_pos (.inr b8))); clear b5 b8 b8'; go_wp2_with fail
      go_ret3; exact ⟨by rw [HR5.out]; rfl, X6⟩
    have b8'' : ((n : Int) + (m : Int) == 0) = false := by simp; omega
    have HR5 := hid' (HR4.out.trans (if_neg (by rintro (h | h); exact h b5; exact b8 h))); clear b5 b8 HR4
    by_cases b9 : 12 < m
    · have b9' : 12 < (m : Int) := by omega
      go_wp2_with fail
      go_ret3; exact ⟨by rw [HR5.out, if_pos (.inl b9)]; rfl, X6⟩
    have b9' : (m : Int) ≤ 12 := by omega
    by_cases b10 : 16383 < v
    · go_wp2_with fail
      go_ret3; exact ⟨by rw [HR5.out, if_pos (.inr b10)]; rfl, X6⟩
    have b10' : v ≤ 16383 := by omega
    have HR6 := hid' (HR5.out.trans (if_neg (by rintro (h | h) <;> omega))); clear HR5; go_wp2_with fail
    have hb5 := blk_set hb4 1 (.int .i64 ((a : Int) + 1)); simp only [List.setIfInBounds_toArray, List.set_cons_zero, List.set_cons_succ] at hb5; have X7 : Chg NoB w (w4.setCell ⟨b, 1, none⟩ (.int .i64 ((a : Int) + 1))) := X6.setCell (p := ⟨b, 1, none⟩) (.inr hlb) (.int .i64 ((a : Int) + 1)); generalize w4.setCell ⟨b, 1, none⟩ (.int .i64 ((a : Int) + 1)) = w5 at *; clear R Z lb X6 hb4; refine (tens_any 12 (by omega) _).mono ?_; rintro e w6 ⟨rfl, rfl⟩; go_wp2_with fail
    refine (HDD.out _ hb5).mono ?_; rintro e w7 ⟨rfl, X8, -⟩; have X9 : Chg NoB w w7 := X7.trans' X8 (fun i hi e => by omega); clear X7 X8 hb5 HDD; obtain ⟨p0, p1⟩ := hw; have hp := pow_18 m (by omega); go_wp2_with fail
    refine (tens_any m (by omega) _).mono ?_; rintro e w8 ⟨rfl, rfl⟩; obtain ⟨t0, t1⟩ := hp; have hnn := nearest_any (part * 65536) (10 ^ m) (by omega) (by omega) t0 t1; have hnb := nearI_le (part * 65536) (10 ^ m) (by omega) t0; have hr6 := HR6.out; generalize nearI (part * 65536) (10 ^ m) = u at *; generalize (10 : Int) ^ m = tm at *; obtain ⟨u0, u1⟩ := hnb; have HR7 := hid' hr6; clear hr6 HR6; go_wp2_with fail
    refine (hnn _).mono ?_; rintro e w9 ⟨rfl, X10⟩; have X11 := X9.trans X10; clear X9 X10 hnn
    by_cases c1 : 1073741823 < v * 65536 + u
    · go_wp2_with fail
      go_ret3; exact ⟨by rw [HR7.out, if_pos c1]; rfl, X11⟩
    · have c1' : v * 65536 + u ≤ 1073741823 := by omega
      go_wp2_with (go_at_call 114; refine (signed_any _ _ (by omega) (by omega) _).mono ?_; rintro e w' ⟨rfl, rfl⟩)
      go_ret3; exact ⟨by rw [HR7.out, if_neg (by omega)]; rfl, X11⟩
  have c43 : ((s[0].toNat : Int) == 43) = false := by
   simp only [beq_eq_false_iff_ne, ne_eq]; intro e; exact h43 (UInt8.toNat_inj.1 (by simp; omega))
  by_cases h45 : s[0] = 45
  · have HR := hid' (hr.trans ((if_neg (by simpa using h43)).trans (if_pos (by rw [h45]))))
    have c45 : ((s[0].toNat : Int) == 45) = true := by rw [h45]; rfl
    clear hr hh h43 h45; go_enter Tryz.func72, Tryz.ntmps72
    go_wp2_with fail
    refine HB.mono ?_; rintro e w1 ⟨rfl, X1⟩; go_wp2_with fail
    have hb0 := blk_new w1 (rdBox s ((1 : Nat) : Int))
    have hln : ∀ j, (digL (s.toList.drop j)).length ≤ s.size - j := fun j => by have := digL_len (s.toList.drop j); rw [List.length_drop, size_lst] at this; exact this
    have ha : 1 + (digL (s.toList.drop 1)).length ≤ s.size := by have := hln 1; omega
    have hna : (digL (s.toList.drop 1)).length ≤ 1 + (digL (s.toList.drop 1)).length := by omega
    have hv := accD_le 2147483648 (by omega) (digL (s.toList.drop 1)) (digL_all _) 0 (by omega) (by omega); refine (digits_any s 1 w1.heap.size _ 2147483648 hs hb0 (by omega) (by omega) (by omega)).mono ?_; rintro e w2 ⟨rfl, X2, hb2⟩; have X3 : Chg NoB w w2 := (X1.alloc (rdBox s ((1 : Nat) : Int))).trans' X2 (fun i hi e => by have := X1.size; omega); have hlb : w.heap.size ≤ w1.heap.size := X1.size; clear X1 X2 hb0 HB; have hr2 := HR.out; unfold readS at hr2; rw [size_lst] at hr2; generalize accD 2147483648 0 (digL (s.toList.drop 1)) = v at *; generalize (digL (s.toList.drop 1)).length = n at *; generalize 1 + n = a at *; generalize w1.heap.size = b at *; have HL := hid' hln; have HR2 := hid' hr2; clear hr2 HR hln; obtain ⟨v0, v1⟩ := hv; have R := cells_of hb2; have lb := blk_lt hb2
    by_cases b1 : a = s.size
    · subst b1
      by_cases b2 : 0 < n
      · have b2' : 0 < (n : Int) := by omega
        have HR3 := hid' (HR2.out.trans (if_pos ⟨rfl, b2⟩)); clear HR2
        by_cases b3 : 2147483647 < v
        · go_wp2_with fail
          go_ret3; exact ⟨by rw [HR3.out, if_pos b3]; rfl, X3⟩
        · have b3' : v ≤ 2147483647 := by omega
          go_wp2_with (go_at_call 114; refine (signed_any _ _ (by omega) (by omega) _).mono ?_; rintro e w' ⟨rfl, rfl⟩)
          go_ret3; exact ⟨by rw [HR3.out, if_neg (by omega)]; rfl, X3⟩
      · have b2' : (n : Int) ≤ 0 := by omega
        have HR3 := hid' (HR2.out.trans ((if_neg (fun h => b2 h.2)).trans (if_pos (.inl rfl)))); clear HR2; go_wp2_with fail
        go_ret3; exact ⟨by rw [HR3.out]; rfl, X3⟩
    have hlt : a < s.size := by omega
    have hlt' : (a : Int) < s.size := by omega
    have b1' : ((a : Int) == (s.size : Int)) = false := by simp; omega
    have b1'' : (a == s.size) = false := by simpa using b1
    have hg := lst_get s a hlt
    by_cases b4 : s[a] = 46
    rotate_left
    · have b4' : ((s[a].toNat : Int) != 46) = true := by
       simp only [bne_iff_ne, ne_eq]; intro e; exact b4 (UInt8.toNat_inj.1 (by simp; omega))
      have HR3 := hid' (HR2.out.trans ((if_neg (fun h => b1 h.1)).trans (if_pos (.inr (by rw [hg]; simpa using b4))))); clear hg b4 b1; go_wp2_with fail
      go_ret3; exact ⟨by rw [HR3.out]; rfl, X3⟩
    have b4' : ((s[a].toNat : Int) != 46) = false := by rw [b4]; rfl
    have HR3 := hid' (HR2.out.trans ((if_neg (fun h => b1 h.1)).trans (if_neg (by rintro (h | h); exact b1 h; exact h (by rw [hg, b4]))))); clear hg b4 b1 HR2; have Z := free_of hb2; go_wp2_with fail
    have hb3 := blk_set hb2 1 (.int .i64 ((a : Int) + 1)); simp only [List.setIfInBounds_toArray, List.set_cons_zero, List.set_cons_succ] at hb3; have X4 : Chg NoB w (w2.setCell ⟨b, 1, none⟩ (.int .i64 ((a : Int) + 1))) := X3.setCell (p := ⟨b, 1, none⟩) (.inr hlb) (.int .i64 ((a : Int) + 1)); generalize w2.setCell ⟨b, 1, none⟩ (.int .i64 ((a : Int) + 1)) = w3 at *; clear R Z lb X3 hb2
    have ha2 : a + 1 + (digL (s.toList.drop (a + 1))).length ≤ s.size := by have := HL.out (a + 1); omega
    have hw := accD_le 1000000000000 (by omega) (digL (s.toList.drop (a + 1))) (digL_all _) 0 (by omega) (by omega); refine (digits_any s (a + 1) b _ 0 hs hb3 (by omega) (by omega) (by omega)).mono ?_; rintro e w4 ⟨rfl, X5, hb4⟩; have X6 : Chg NoB w w4 := X4.trans' X5 (fun i hi e => by omega); clear X4 X5 hb3; have HD := fun (w : World) (hb : w.heap[b]? = some (rdBox s ((a + 1 : Nat) : Int))) => digits_any s (a + 1) b w 1000000000000 hs hb (by omega) (by omega) (by omega); have hr3 := HR3.out; generalize accD 0 0 (digL (s.toList.drop (a + 1))) = zz at *; generalize accD 1000000000000 0 (digL (s.toList.drop (a + 1))) = part at *; generalize (digL (s.toList.drop (a + 1))).length = m at *; have HR4 := hid' hr3; have HDD := hid' HD; clear hr3 HR3 HD; have R := cells_of hb4; have lb := blk_lt hb4; have Z := free_of hb4
    by_cases b5 : a + 1 + m = s.size
    rotate_left
    · have b5' : (((a + 1 + m : Nat) : Int) == (s.size : Int)) = false := by simp; omega
      have b5'' : (a + 1 + m == s.size) = false := by simpa using b5
      have b6' : (((a + 1 + m : Nat) : Int) != (s.size : Int)) = true := by simp; omega
      have b6'' : (a + 1 + m != s.size) = true := by simpa using b5
      have b7' : ((a : Int) + 1 + (m : Int) != (s.size : Int)) = true := by simp; omega
      have HR5 := hid' (HR4.out.trans (if_pos (.inl b5))); clear b5; go_wp2_with fail
      go_ret3; exact ⟨by rw [HR5.out]; rfl, X6⟩
    have b6' : (((a + 1 + m : Nat) : Int) != (s.size : Int)) = false := by simp; omega
    have b6'' : (a + 1 + m != s.size) = false := by simpa using b5
    have b7' : ((a : Int) + 1 + (m : Int) != (s.size : Int)) = false := by simp; omega
    by_cases b8 : n + m = 0
    · have b8' : (n : Int) + (m : Int) = 0 := by omega
      have b8'' : ((n : Int) + (m : Int) == 0) = true := by simpa using b8'
      have HR5 := hid' (HR4.out.trans (if_pos (.inr b8))); clear b5 b8 b8'; go_wp2_with fail
      go_ret3; exact ⟨by rw [HR5.out]; rfl, X6⟩
    have b8'' : ((n : Int) + (m : Int) == 0) = false := by simp; omega
    have HR5 := hid' (HR4.out.trans (if_neg (by rintro (h | h); exact h b5; exact b8 h))); clear b5 b8 HR4
    by_cases b9 : 12 < m
    · have b9' : 12 < (m : Int) := by omega
      go_wp2_with fail
      go_ret3; exact ⟨by rw [HR5.out, if_pos (.inl b9)]; rfl, X6⟩
    have b9' : (m : Int) ≤ 12 := by omega
    by_cases b10 : 16383 < v
    · go_wp2_with fail
      go_ret3; exact ⟨by rw [HR5.out, if_pos (.inr b10)]; rfl, X6⟩
    have b10' : v ≤ 16383 := by omega
    have HR6 := hid' (HR5.out.trans (if_neg (by rintro (h | h) <;> omega))); clear HR5; go_wp2_with fail
    have hb5 := blk_set hb4 1 (.int .i64 ((a : Int) + 1)); simp only [List.setIfInBounds_toArray, List.set_cons_zero, List.set_cons_succ] at hb5; have X7 : Chg NoB w (w4.setCell ⟨b, 1, none⟩ (.int .i64 ((a : Int) + 1))) := X6.setCell (p := ⟨b, 1, none⟩) (.inr hlb) (.int .i64 ((a : Int) + 1)); generalize w4.setCell ⟨b, 1, none⟩ (.int .i64 ((a : Int) + 1)) = w5 at *; clear R Z lb X6 hb4; refine (tens_any 12 (by omega) _).mono ?_; rintro e w6 ⟨rfl, rfl⟩; go_wp2_with fail
    refine (HDD.out _ hb5).mono ?_; rintro e w7 ⟨rfl, X8, -⟩; have X9 : Chg NoB w w7 := X7.trans' X8 (fun i hi e => by omega); clear X7 X8 hb5 HDD; obtain ⟨p0, p1⟩ := hw; have hp := pow_18 m (by omega); go_wp2_with fail
    refine (tens_any m (by omega) _).mono ?_; rintro e w8 ⟨rfl, rfl⟩; obtain ⟨t0, t1⟩ := hp; have hnn := nearest_any (part * 65536) (10 ^ m) (by omega) (by omega) t0 t1; have hnb := nearI_le (part * 65536) (10 ^ m) (by omega) t0; have hr6 := HR6.out; generalize nearI (part * 65536) (10 ^ m) = u at *; generalize (10 : Int) ^ m = tm at *; obtain ⟨u0, u1⟩ := hnb; have HR7 := hid' hr6; clear hr6 HR6; go_wp2_with fail
    refine (hnn _).mono ?_; rintro e w9 ⟨rfl, X10⟩; have X11 := X9.trans X10; clear X9 X10 hnn
    by_cases c1 : 1073741823 < v * 65536 + u
    · go_wp2_with fail
      go_ret3; exact ⟨by rw [HR7.out, if_pos c1]; rfl, X11⟩
    · have c1' : v * 65536 + u ≤ 1073741823 := by omega
      go_wp2_with (go_at_call 114; refine (signed_any _ _ (by omega) (by omega) _).mono ?_; rintro e w' ⟨rfl, rfl⟩)
      go_ret3; exact ⟨by rw [HR7.out, if_neg (by omega)]; rfl, X11⟩
  have c45 : ((s[0].toNat : Int) == 45) = false := by
   simp only [beq_eq_false_iff_ne, ne_eq]; intro e; exact h45 (UInt8.toNat_inj.1 (by simp; omega))
  have HR := hid' (hr.trans ((if_neg (by simpa using h43)).trans (if_neg (by simpa using h45)))); clear hr hh h43 h45; go_enter Tryz.func72, Tryz.ntmps72
  go_wp2_with fail
  refine HB.mono ?_; rintro e w1 ⟨rfl, X1⟩; go_wp2_with fail
  have hb0 := blk_new w1 (rdBox s ((0 : Nat) : Int))
  have hln : ∀ j, (digL (s.toList.drop j)).length ≤ s.size - j := fun j => by have := digL_len (s.toList.drop j); rw [List.length_drop, size_lst] at this; exact this
  have ha : 0 + (digL (s.toList.drop 0)).length ≤ s.size := by have := hln 0; omega
  have hna : (digL (s.toList.drop 0)).length ≤ 0 + (digL (s.toList.drop 0)).length := by omega
  have hv := accD_le 2147483648 (by omega) (digL (s.toList.drop 0)) (digL_all _) 0 (by omega) (by omega); refine (digits_any s 0 w1.heap.size _ 2147483648 hs hb0 (by omega) (by omega) (by omega)).mono ?_; rintro e w2 ⟨rfl, X2, hb2⟩; have X3 : Chg NoB w w2 := (X1.alloc (rdBox s ((0 : Nat) : Int))).trans' X2 (fun i hi e => by have := X1.size; omega); have hlb : w.heap.size ≤ w1.heap.size := X1.size; clear X1 X2 hb0 HB; have hr2 := HR.out; unfold readS at hr2; rw [size_lst] at hr2; generalize accD 2147483648 0 (digL (s.toList.drop 0)) = v at *; generalize (digL (s.toList.drop 0)).length = n at *; generalize 0 + n = a at *; generalize w1.heap.size = b at *; have HL := hid' hln; have HR2 := hid' hr2; clear hr2 HR hln; obtain ⟨v0, v1⟩ := hv; have R := cells_of hb2; have lb := blk_lt hb2
  by_cases b1 : a = s.size
  · subst b1
    by_cases b2 : 0 < n
    · have b2' : 0 < (n : Int) := by omega
      have HR3 := hid' (HR2.out.trans (if_pos ⟨rfl, b2⟩)); clear HR2
      by_cases b3 : 2147483647 < v
      · go_wp2_with fail
        go_ret3; exact ⟨by rw [HR3.out, if_pos b3]; rfl, X3⟩
      · have b3' : v ≤ 2147483647 := by omega
        go_wp2_with (go_at_call 114; refine (signed_any _ _ (by omega) (by omega) _).mono ?_; rintro e w' ⟨rfl, rfl⟩)
        go_ret3; exact ⟨by rw [HR3.out, if_neg (by omega)]; rfl, X3⟩
    · have b2' : (n : Int) ≤ 0 := by omega
      have HR3 := hid' (HR2.out.trans ((if_neg (fun h => b2 h.2)).trans (if_pos (.inl rfl)))); clear HR2; go_wp2_with fail
      go_ret3; exact ⟨by rw [HR3.out]; rfl, X3⟩
  have hlt : a < s.size := by omega
  have hlt' : (a : Int) < s.size := by omega
  have b1' : ((a : Int) == (s.size : Int)) = false := by simp; omega
  have b1'' : (a == s.size) = false := by simpa using b1
  have hg := lst_get s a hlt
  by_cases b4 : s[a] = 46
  rotate_left
  · have b4' : ((s[a].toNat : Int) != 46) = true := by
     simp only [bne_iff_ne, ne_eq]; intro e; exact b4 (UInt8.toNat_inj.1 (by simp; omega))
    have HR3 := hid' (HR2.out.trans ((if_neg (fun h => b1 h.1)).trans (if_pos (.inr (by rw [hg]; simpa using b4))))); clear hg b4 b1; go_wp2_with fail
    go_ret3; exact ⟨by rw [HR3.out]; rfl, X3⟩
  have b4' : ((s[a].toNat : Int) != 46) = false := by rw [b4]; rfl
  have HR3 := hid' (HR2.out.trans ((if_neg (fun h => b1 h.1)).trans (if_neg (by rintro (h | h); exact b1 h; exact h (by rw [hg, b4]))))); clear hg b4 b1 HR2; have Z := free_of hb2; go_wp2_with fail
  have hb3 := blk_set hb2 1 (.int .i64 ((a : Int) + 1)); simp only [List.setIfInBounds_toArray, List.set_cons_zero, List.set_cons_succ] at hb3; have X4 : Chg NoB w (w2.setCell ⟨b, 1, none⟩ (.int .i64 ((a : Int) + 1))) := X3.setCell (p := ⟨b, 1, none⟩) (.inr hlb) (.int .i64 ((a : Int) + 1)); generalize w2.setCell ⟨b, 1, none⟩ (.int .i64 ((a : Int) + 1)) = w3 at *; clear R Z lb X3 hb2
  have ha2 : a + 1 + (digL (s.toList.drop (a + 1))).length ≤ s.size := by have := HL.out (a + 1); omega
  have hw := accD_le 1000000000000 (by omega) (digL (s.toList.drop (a + 1))) (digL_all _) 0 (by omega) (by omega); refine (digits_any s (a + 1) b _ 0 hs hb3 (by omega) (by omega) (by omega)).mono ?_; rintro e w4 ⟨rfl, X5, hb4⟩; have X6 : Chg NoB w w4 := X4.trans' X5 (fun i hi e => by omega); clear X4 X5 hb3; have HD := fun (w : World) (hb : w.heap[b]? = some (rdBox s ((a + 1 : Nat) : Int))) => digits_any s (a + 1) b w 1000000000000 hs hb (by omega) (by omega) (by omega); have hr3 := HR3.out; generalize accD 0 0 (digL (s.toList.drop (a + 1))) = zz at *; generalize accD 1000000000000 0 (digL (s.toList.drop (a + 1))) = part at *; generalize (digL (s.toList.drop (a + 1))).length = m at *; have HR4 := hid' hr3; have HDD := hid' HD; clear hr3 HR3 HD; have R := cells_of hb4; have lb := blk_lt hb4; have Z := free_of hb4
  by_cases b5 : a + 1 + m = s.size
  rotate_left
  · have b5' : (((a + 1 + m : Nat) : Int) == (s.size : Int)) = false := by simp; omega
    have b5'' : (a + 1 + m == s.size) = false := by simpa using b5
    have b6' : (((a + 1 + m : Nat) : Int) != (s.size : Int)) = true := by simp; omega
    have b6'' : (a + 1 + m != s.size) = true := by simpa using b5
    have b7' : ((a : Int) + 1 + (m : Int) != (s.size : Int)) = true := by simp; omega
    have HR5 := hid' (HR4.out.trans (if_pos (.inl b5))); clear b5; go_wp2_with fail
    go_ret3; exact ⟨by rw [HR5.out]; rfl, X6⟩
  have b6' : (((a + 1 + m : Nat) : Int) != (s.size : Int)) = false := by simp; omega
  have b6'' : (a + 1 + m != s.size) = false := by simpa using b5
  have b7' : ((a : Int) + 1 + (m : Int) != (s.size : Int)) = false := by simp; omega
  by_cases b8 : n + m = 0
  · have b8' : (n : Int) + (m : Int) = 0 := by omega
    have b8'' : ((n : Int) + (m : Int) == 0) = true := by simpa using b8'
    have HR5 := hid' (HR4.out.trans (if_pos (.inr b8))); clear b5 b8 b8'; go_wp2_with fail
    go_ret3; exact ⟨by rw [HR5.out]; rfl, X6⟩
  have b8'' : ((n : Int) + (m : Int) == 0) = false := by simp; omega
  have HR5 := hid' (HR4.out.trans (if_neg (by rintro (h | h); exact h b5; exact b8 h))); clear b5 b8 HR4
  by_cases b9 : 12 < m
  · have b9' : 12 < (m : Int) := by omega
    go_wp2_with fail
    go_ret3; exact ⟨by rw [HR5.out, if_pos (.inl b9)]; rfl, X6⟩
  have b9' : (m : Int) ≤ 12 := by omega
  by_cases b10 : 16383 < v
  · go_wp2_with fail
    go_ret3; exact ⟨by rw [HR5.out, if_pos (.inr b10)]; rfl, X6⟩
  have b10' : v ≤ 16383 := by omega
  have HR6 := hid' (HR5.out.trans (if_neg (by rintro (h | h) <;> omega))); clear HR5; go_wp2_with fail
  have hb5 := blk_set hb4 1 (.int .i64 ((a : Int) + 1)); simp only [List.setIfInBounds_toArray, List.set_cons_zero, List.set_cons_succ] at hb5; have X7 : Chg NoB w (w4.setCell ⟨b, 1, none⟩ (.int .i64 ((a : Int) + 1))) := X6.setCell (p := ⟨b, 1, none⟩) (.inr hlb) (.int .i64 ((a : Int) + 1)); generalize w4.setCell ⟨b, 1, none⟩ (.int .i64 ((a : Int) + 1)) = w5 at *; clear R Z lb X6 hb4; refine (tens_any 12 (by omega) _).mono ?_; rintro e w6 ⟨rfl, rfl⟩; go_wp2_with fail
  refine (HDD.out _ hb5).mono ?_; rintro e w7 ⟨rfl, X8, -⟩; have X9 : Chg NoB w w7 := X7.trans' X8 (fun i hi e => by omega); clear X7 X8 hb5 HDD; obtain ⟨p0, p1⟩ := hw; have hp := pow_18 m (by omega); go_wp2_with fail
  refine (tens_any m (by omega) _).mono ?_; rintro e w8 ⟨rfl, rfl⟩; obtain ⟨t0, t1⟩ := hp; have hnn := nearest_any (part * 65536) (10 ^ m) (by omega) (by omega) t0 t1; have hnb := nearI_le (part * 65536) (10 ^ m) (by omega) t0; have hr6 := HR6.out; generalize nearI (part * 65536) (10 ^ m) = u at *; generalize (10 : Int) ^ m = tm at *; obtain ⟨u0, u1⟩ := hnb; have HR7 := hid' hr6; clear hr6 HR6; go_wp2_with fail
  refine (hnn _).mono ?_; rintro e w9 ⟨rfl, X10⟩; have X11 := X9.trans X10; clear X9 X10 hnn
  by_cases c1 : 1073741823 < v * 65536 + u
  · go_wp2_with fail
    go_ret3; exact ⟨by rw [HR7.out, if_pos c1]; rfl, X11⟩
  · have c1' : v * 65536 + u ≤ 1073741823 := by omega
    go_wp2_with (go_at_call 114; refine (signed_any _ _ (by omega) (by omega) _).mono ?_; rintro e w' ⟨rfl, rfl⟩)
    go_ret3; exact ⟨by rw [HR7.out, if_neg (by omega)]; rfl, X11⟩
def digB (base : Int) (c : UInt8) : Bool := decide (0 ≤ valueI c.toNat) && decide (valueI c.toNat < base)
def rbF (h d : List UInt8) : Int × Int × Int :=
 if h.length < 1 ∨ 2 < h.length ∨ h.all isDig = false ∨ h.head? = some 48 ∨ d = [] then (0, 0, 3)
 else if accR 10 0 h < 2 ∨ 36 < accR 10 0 h then (0, 0, 3)
 else if d.all (digB (accR 10 0 h)) = false then (0, 0, 3)
 else if 2147483647 < accR (accR 10 0 h) 0 d then (0, 0, 2) else (1, accR (accR 10 0 h) 0 d, 0)
theorem dig_value (c : UInt8) (h : isDig c = true) : valueI c.toNat = (c.toNat : Int) - 48 ∧ 0 ≤ valueI c.toNat := by
 simp only [isDig, Bool.and_eq_true, decide_eq_true_eq] at h; unfold valueI; rw [if_pos h]; omega
theorem all_value (l : List UInt8) (h : l.all isDig = true) : ∀ c ∈ l, 0 ≤ valueI c.toNat := fun c hc => (dig_value c (List.all_eq_true.1 h c hc)).2
theorem accR_le (base : Int) (h0 : 0 ≤ base) : ∀ (l : List UInt8) (_ : ∀ c ∈ l, 0 ≤ valueI c.toNat) (v : Int), 0 ≤ v → v ≤ 1099511627776 → 0 ≤ accR base v l ∧ accR base v l ≤ 1099511627776
 | [], _, v, h1, h2 => ⟨h1, h2⟩
 | c :: l, h, v, h1, h2 => by
  rw [accR_cons]; have := h c (by simp); have h3 : 0 ≤ v * base := Int.mul_nonneg h1 h0; exact accR_le base h0 l (fun x hx => h x (by simp [hx])) _ (by split <;> omega) (by split <;> omega)
theorem isEmpty_size (s : ByteArray) : s.toList.isEmpty = decide (s.size = 0) := by
 rw [← size_lst]
 cases s.toList <;> simp
theorem ext0_lst (s : ByteArray) (a : Nat) : (s.extract 0 a).toList = s.toList.take a := by
 rw [ByteArray.toList_eq, ByteArray.toList_eq, ByteArray.data_extract]; simp [List.extract_eq_take_drop]
theorem extE_lst (s : ByteArray) (a : Nat) : (s.extract a s.size).toList = s.toList.drop a := by
 rw [ByteArray.toList_eq, ByteArray.toList_eq, ByteArray.data_extract]; have : s.size = s.data.toList.length := rfl; simp only [Array.toList_extract, List.extract_eq_take_drop, this]; rw [List.take_of_length_le]; simp
set_option maxRecDepth 100000 in
set_option maxHeartbeats 1000000 in
theorem rbased_any (s : ByteArray) (a : Nat) (hs : s.size ≤ 9223372036854775807) (ha : a < s.size) (w : World) :
 Calls Tryz.prog 120 #[.string s, .int .i64 a] w fun e w' => e = .returned (readV (rbF (s.toList.take a) (s.toList.drop (a + 1)))) ∧ Chg NoB w w' := by
 obtain ⟨y1, hy1⟩ : ∃ y, s.extract 0 a = y := ⟨_, rfl⟩
 obtain ⟨y2, hy2⟩ : ∃ y, s.extract (a + 1) s.size = y := ⟨_, rfl⟩
 have hy1' : s.extract 0 (a : Int).toNat = y1 := hy1
 have hy2' : s.extract ((a : Int) + 1).toNat s.size = y2 := by rw [← hy2, show ((a : Int) + 1).toNat = a + 1 by omega]
 have l1 : y1.toList = s.toList.take a := by rw [← hy1, ext0_lst]
 have l2 : y2.toList = s.toList.drop (a + 1) := by rw [← hy2, extE_lst]
 have z1 : y1.size = a := by rw [← hy1, ByteArray.size_extract]; omega
 have z2 : y2.size = s.size - (a + 1) := by rw [← hy2, ByteArray.size_extract]; omega
 rw [← l1, ← l2]
 obtain ⟨R, hR⟩ : ∃ R, rbF y1.toList y2.toList = R := ⟨_, rfl⟩
 rw [hR]; have hr : R = rbF y1.toList y2.toList := hR.symm; unfold rbF at hr; rw [size_lst, z1] at hr; clear hR
 have ha' : (a : Int) < s.size := by omega
 have ha0 : (0 : Int) ≤ a := by omega
 have ha1 : (a : Int) + 1 ≤ s.size := by omega
 have z1' : (y1.size : Int) = a := by omega
 clear hy1' hy2' l1 l2
 by_cases c1 : a < 1
 · have c1' : (a : Int) < 1 := by omega
   have HR := hid' (hr.trans (if_pos (.inl c1))); clear hr; go_enter Tryz.func120, Tryz.ntmps120
   go_wp2_with fail
   go_quiet (fail)
   have X := (Chg.refl NoB w).drewN nq; generalize w.drewN nq = w1 at *; go_wp2_with fail
   go_ret3; exact ⟨by rw [HR.out]; rfl, X⟩
 by_cases c2 : 2 < a
 · have c1' : 1 ≤ (a : Int) := by omega
   have c2' : 2 < (a : Int) := by omega
   have HR := hid' (hr.trans (if_pos (.inr (.inl c2)))); clear hr; go_enter Tryz.func120, Tryz.ntmps120
   go_wp2_with fail
   go_quiet (fail)
   have X := (Chg.refl NoB w).drewN nq; generalize w.drewN nq = w1 at *; go_wp2_with fail
   go_ret3; exact ⟨by rw [HR.out]; rfl, X⟩
 have c1' : 1 ≤ (a : Int) := by omega
 have c2' : (a : Int) ≤ 2 := by omega
 have HA0 := fun w => rall_any y1 (by omega) w
 obtain ⟨v1, hv1⟩ : ∃ v, y1.toList.all isDig = v := ⟨_, rfl⟩
 rw [hv1] at HA0 hr; have HA := hid' HA0; clear HA0
 cases v1 with
 | false =>
  have HR := hid' (hr.trans (if_pos (.inr (.inr (.inl rfl))))); clear hr hv1; go_enter Tryz.func120, Tryz.ntmps120
  go_wp2_with fail
  go_quiet (fail)
  have X := (Chg.refl NoB w).drewN nq; generalize w.drewN nq = w1 at *; go_wp2_with fail
  refine (HA.out _).mono ?_; rintro e w2 ⟨rfl, rfl⟩; go_wp2_with fail
  go_ret3; exact ⟨by rw [HR.out]; rfl, X⟩
 | true =>
 have hh : y1.toList.head? = some y1[0] := by rw [List.head?_eq_getElem?]; exact lst_get y1 0 (by omega)
 rw [hh] at hr
 have p0 : 0 < y1.size := by omega
 have p0' : 0 < (y1.size : Int) := by omega
 by_cases c3 : y1[0] = 48
 · have e3 : ((y1[0].toNat : Int) == 48) = true := by rw [c3]; rfl
   have HR := hid' (hr.trans (if_pos (.inr (.inr (.inr (.inl (by rw [c3]))))))); clear hr hv1 hh c3; go_enter Tryz.func120, Tryz.ntmps120
   go_wp2_with fail
   go_quiet (fail)
   have X := (Chg.refl NoB w).drewN nq; generalize w.drewN nq = w1 at *; go_wp2_with fail
   refine (HA.out _).mono ?_; rintro e w2 ⟨rfl, rfl⟩; go_wp2_with fail
   go_ret3; exact ⟨by rw [HR.out]; rfl, X⟩
 have e3 : ((y1[0].toNat : Int) == 48) = false := by
  simp only [beq_eq_false_iff_ne, ne_eq]; intro e; exact c3 (UInt8.toNat_inj.1 (by have : (48 : UInt8).toNat = 48 := rfl; omega))
 by_cases c4 : y2.toList = []
 · have e4 : y2.toList.isEmpty = true := by rw [c4]; rfl
   have HR := hid' (hr.trans (if_pos (.inr (.inr (.inr (.inr c4)))))); clear hr hv1 hh c3 c4; go_enter Tryz.func120, Tryz.ntmps120
   go_wp2_with fail
   go_quiet (fail)
   have X := (Chg.refl NoB w).drewN nq; generalize w.drewN nq = w1 at *; go_wp2_with fail
   refine (HA.out _).mono ?_; rintro e w2 ⟨rfl, rfl⟩; go_wp2_with fail
   go_ret3; exact ⟨by rw [HR.out]; rfl, X⟩
 have e4 : y2.toList.isEmpty = false := by cases h : y2.toList with
  | nil => exact absurd h c4
  | cons => rfl
 have hr := hr.trans (if_neg (fun h => by rcases h with h | h | h | h | h; omega; omega; exact absurd h (by decide); exact c3 (Option.some.inj h); exact c4 h)); have HD0 := fun w => radd_any y1 10 (by omega) (by omega) (all_value _ hv1) (by omega) w; have hB0 := accR_le 10 (by omega) y1.toList (all_value _ hv1) 0 (by omega) (by omega); generalize accR 10 0 y1.toList = B at *; have HD := hid' HD0; clear HD0 hv1 hh c3 c4
 by_cases c5 : B < 2
 · have HR := hid' (hr.trans (if_pos (.inl c5))); clear hr; go_enter Tryz.func120, Tryz.ntmps120
   go_wp2_with fail
   go_quiet (fail)
   have X := (Chg.refl NoB w).drewN nq; generalize w.drewN nq = w1 at *; go_wp2_with fail
   refine (HA.out _).mono ?_; rintro e w2 ⟨rfl, rfl⟩; go_wp2_with fail
   refine (HD.out _).mono ?_; rintro e w2 ⟨rfl, rfl⟩; go_wp2_with fail
   go_ret3; exact ⟨by rw [HR.out]; rfl, X⟩
 by_cases c6 : 36 < B
 · have c5' : 2 ≤ B := by omega
   have HR := hid' (hr.trans (if_pos (.inr c6))); clear hr; go_enter Tryz.func120, Tryz.ntmps120
   go_wp2_with fail
   go_quiet (fail)
   have X := (Chg.refl NoB w).drewN nq; generalize w.drewN nq = w1 at *; go_wp2_with fail
   refine (HA.out _).mono ?_; rintro e w2 ⟨rfl, rfl⟩; go_wp2_with fail
   refine (HD.out _).mono ?_; rintro e w2 ⟨rfl, rfl⟩; go_wp2_with fail
   go_ret3; exact ⟨by rw [HR.out]; rfl, X⟩
 have c5' : 2 ≤ B := by omega
 have c6' : B ≤ 36 := by omega
 have hr := hr.trans (if_neg (fun h => by omega)); have HR0 := hid' hr; clear hr; go_enter Tryz.func120, Tryz.ntmps120
 go_wp2_with fail
 go_quiet (fail)
 have X := (Chg.refl NoB w).drewN nq; generalize w.drewN nq = w1 at *; go_wp2_with fail
 refine (HA.out _).mono ?_; rintro e w2 ⟨rfl, rfl⟩; go_wp2_with fail
 refine (HD.out _).mono ?_; rintro e w2 ⟨rfl, rfl⟩; go_wp2_with fail
 go_loopw [10] (fun iv wr => ∃ i : Nat, i ≤ y2.size ∧ iv = .int .i64 i ∧ y2.toList.all (digB B) = (y2.toList.drop i).all (digB B) ∧ Chg NoB w wr) (fun iv _ => y2.size - (intOf iv).toNat)
 case atStart => exact ⟨0, Nat.zero_le _, rfl, rfl, X⟩
 case round =>
  obtain ⟨i, hi, rfl, hal, X2⟩ := hrel; have HAL := hid' hal; clear hal X
  by_cases hlt : i < y2.size
  · have hlt' : (i : Int) < y2.size := by omega
    have h0i : (0 : Int) ≤ i := by omega
    have HS := hid' (drop_at y2 i hlt); have HC := hid' (fun w => rvalue_any y2[i].toNat (by omega) (by have := y2[i].toNat_lt; omega) w); have HB := hid' (show digB B y2[i] = (decide (0 ≤ valueI y2[i].toNat) && decide (valueI y2[i].toNat < B)) from rfl); generalize valueI (y2[i].toNat : Int) = q at *
    by_cases d1 : q < 0
    · have hf : y2.toList.all (digB B) = false := by
       rw [HAL.out, HS.out, List.all_cons, HB.out, decide_eq_false (by omega)]; rfl
      have HR := hid' (HR0.out.trans (if_pos hf)); clear hf HR0; go_wp2_with fail
      refine (HC.out _).mono ?_; rintro e w3 ⟨rfl, rfl⟩; go_wp2_with fail
      go_ret3; exact ⟨by rw [HR.out]; rfl, X2⟩
    · have d1' : 0 ≤ q := by omega
      by_cases d2 : B ≤ q
      · have hf : y2.toList.all (digB B) = false := by
         rw [HAL.out, HS.out, List.all_cons, HB.out, decide_eq_false (show ¬ q < B by omega), Bool.and_false]; rfl
        have HR := hid' (HR0.out.trans (if_pos hf)); clear hf HR0; go_wp2_with fail
        refine (HC.out _).mono ?_; rintro e w3 ⟨rfl, rfl⟩; go_wp2_with fail
        go_ret3; exact ⟨by rw [HR.out]; rfl, X2⟩
      · have d2' : q < B := by omega
        have hb : digB B y2[i] = true := by rw [HB.out]; simp; omega
        have HB2 := hid' hb; clear hb; go_wp2_with fail
        refine (HC.out _).mono ?_; rintro e w3 ⟨rfl, rfl⟩; go_wp2_with fail
        go_roundw
        case rel => exact ⟨i + 1, by omega, by go_num, by rw [HAL.out, HS.out, List.all_cons, HB2.out]; rfl, X2⟩
        case measure => simp [intOf]; omega
  · have hlt' : ¬ (i : Int) < y2.size := by omega
    have hf : y2.toList.all (digB B) = true := by rw [HAL.out, drop_end y2 i (by omega)]; rfl
    have HR1 := hid' (HR0.out.trans (if_neg (by rw [hf]; decide)))
    have hdv : ∀ c ∈ y2.toList, 0 ≤ valueI c.toNat := fun c hc => by
     have := List.all_eq_true.1 hf c hc; simp only [digB, Bool.and_eq_true, decide_eq_true_eq] at this; exact this.1
    have HE0 := fun w => radd_any y2 B (by omega) (by omega) hdv (by omega) w; have hV := accR_le B (by omega) y2.toList hdv 0 (by omega) (by omega); generalize accR B 0 y2.toList = V at *; have HE := hid' HE0; clear HE0 HR0 hf hdv HAL
    by_cases c7 : 2147483647 < V
    · have HR := hid' (HR1.out.trans (if_pos c7)); go_wp2_with fail
      refine (HE.out _).mono ?_; rintro e w3 ⟨rfl, rfl⟩; go_wp2_with fail
      go_ret3; exact ⟨by rw [HR.out]; rfl, X2⟩
    · have c7' : V ≤ 2147483647 := by omega
      have HR := hid' (HR1.out.trans (if_neg c7)); go_wp2_with fail
      refine (HE.out _).mono ?_; rintro e w3 ⟨rfl, rfl⟩; go_wp2_with fail
      go_ret3; exact ⟨by rw [HR.out]; rfl, X2⟩
end Go.Proofs.YtoogmimbmgdflaaGreat
