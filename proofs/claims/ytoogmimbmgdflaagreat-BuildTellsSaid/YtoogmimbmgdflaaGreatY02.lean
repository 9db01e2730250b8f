/- Parts of the proof: Tnu, Tnv, Tbs, Ra5, Ra6, Ra1. -/
import Derived.Shelf.Bits.Mul64
import Derived.Test.YtoogmimbmgdflaaGreatY01
namespace Go.Proofs.YtoogmimbmgdflaaGreat
open Go.RowKit
def isDig (c : UInt8) : Bool := decide (48 ≤ (c.toNat : Int)) && decide ((c.toNat : Int) ≤ 57)
def digL (l : List UInt8) : List UInt8 := l.takeWhile isDig
def accD (most : Int) (v : Int) (l : List UInt8) : Int := l.foldl (fun v c => if most < v * 10 + ((c.toNat : Int) - 48) then most else v * 10 + ((c.toNat : Int) - 48)) v
abbrev rdBox (s : ByteArray) (k : Int) : Obj := .cells #[.string s, .int .i64 k] 166 (0, 0)
abbrev clo (b : Nat) : Value := .func (.func 112) #[.pointer (some ⟨b, 0, none⟩)] #[]
theorem digL_yes (s : ByteArray) (j : Nat) (h : j < s.size) (h1 : 48 ≤ (s[j].toNat : Int)) (h2 : (s[j].toNat : Int) ≤ 57) : digL (s.toList.drop j) = s[j] :: digL (s.toList.drop (j + 1)) := by
 rw [drop_at s j h]; unfold digL; rw [List.takeWhile_cons, if_pos]; simp [isDig, h1, h2]
theorem digL_no (s : ByteArray) (j : Nat) (h : j < s.size) (h1 : (s[j].toNat : Int) < 48 ∨ 57 < (s[j].toNat : Int)) : digL (s.toList.drop j) = [] := by
 rw [drop_at s j h]; unfold digL; rw [List.takeWhile_cons, if_neg]; simp [isDig]
 omega
theorem digL_end (s : ByteArray) (j : Nat) (h : s.size ≤ j) : digL (s.toList.drop j) = [] := by rw [drop_end s j h]; rfl
set_option maxRecDepth 100000 in
set_option maxHeartbeats 4000000 in
theorem digit_end (s : ByteArray) (k b : Nat) (w : World) (hb : w.heap[b]? = some (rdBox s k)) (h : s.size ≤ k) :
 Calls Tryz.prog 112 #[.pointer (some ⟨b, 0, none⟩)] w fun e w' => e = .returned (.tuple #[.int .i64 0, .bool false]) ∧ Chg NoB w w' := by
 have R := cells_of hb; have lb := blk_lt hb
 have h' : (s.size : Int) ≤ k := by omega
 clear hb; go_enter Tryz.func112, Tryz.ntmps112
 go_wp2_with fail
 go_quiet (fail)
 go_wp2_with fail
 go_ret2
 exact ⟨rfl, (Chg.refl NoB w).drewN _⟩
set_option maxRecDepth 100000 in
set_option maxHeartbeats 400000 in
theorem digit_low (s : ByteArray) (k b : Nat) (w : World) (hb : w.heap[b]? = some (rdBox s k)) (h : k < s.size) (hd : (s[k].toNat : Int) < 48) :
 Calls Tryz.prog 112 #[.pointer (some ⟨b, 0, none⟩)] w fun e w' => e = .returned (.tuple #[.int .i64 0, .bool false]) ∧ Chg NoB w w' := by
 have R := cells_of hb; have lb := blk_lt hb
 have h' : (k : Int) < s.size := by omega
 have h0 : (0 : Int) ≤ k := by omega
 have g1 : decide (s.size ≤ k) = false := by simp; omega
 have g2 : decide ((s[k].toNat : Int) < 48) = true := by simp; omega
 clear hb; go_enter Tryz.func112, Tryz.ntmps112
 go_wp2_with fail
 go_quiet (fail)
 go_wp2_with fail
 go_ret2
 exact ⟨rfl, (Chg.refl NoB w).drewN _⟩
set_option maxRecDepth 100000 in
set_option maxHeartbeats 400000 in
theorem digit_high (s : ByteArray) (k b : Nat) (w : World) (hb : w.heap[b]? = some (rdBox s k)) (h : k < s.size) (hd : 57 < (s[k].toNat : Int)) :
 Calls Tryz.prog 112 #[.pointer (some ⟨b, 0, none⟩)] w fun e w' => e = .returned (.tuple #[.int .i64 0, .bool false]) ∧ Chg NoB w w' := by
 have R := cells_of hb; have lb := blk_lt hb
 have h' : (k : Int) < s.size := by omega
 have h0 : (0 : Int) ≤ k := by omega
 have g1 : decide (s.size ≤ k) = false := by simp; omega
 have g2 : decide ((s[k].toNat : Int) < 48) = false := by simp; omega
 have g3 : decide (57 < (s[k].toNat : Int)) = true := by simp; omega
 clear hb; go_enter Tryz.func112, Tryz.ntmps112
 go_wp2_with fail
 go_quiet (fail)
 go_wp2_with fail
 go_ret2
 exact ⟨rfl, (Chg.refl NoB w).drewN _⟩
set_option maxRecDepth 100000 in
set_option maxHeartbeats 1000000 in
theorem digit_yes (s : ByteArray) (k b : Nat) (w : World) (hs : s.size ≤ 9223372036854775807) (hb : w.heap[b]? = some (rdBox s k)) (h : k < s.size) (h1 : 48 ≤ (s[k].toNat : Int)) (h2 : (s[k].toNat : Int) ≤ 57) :
 Calls Tryz.prog 112 #[.pointer (some ⟨b, 0, none⟩)] w fun e w' => e = .returned (.tuple #[.int .i64 ((s[k].toNat : Int) - 48), .bool true]) ∧ Chg (· = b) w w' ∧ w'.heap[b]? = some (rdBox s (k + 1)) := by
 have R := cells_of hb; have Z := free_of hb; have lb := blk_lt hb
 have h' : (k : Int) < s.size := by omega
 have h0 : (0 : Int) ≤ k := by omega
 have g1 : decide (s.size ≤ k) = false := by simp; omega
 have g2 : decide ((s[k].toNat : Int) < 48) = false := by simp; omega
 have g3 : decide (57 < (s[k].toNat : Int)) = false := by simp; omega
 go_enter Tryz.func112, Tryz.ntmps112
 go_wp2_with fail
 go_quiet (fail)
 have hb1 : (w.drewN nq).heap[b]? = some (rdBox s k) := hb; have X1 := (Chg.refl (· = b) w).drewN nq; have R := cells_of hb1; have Z := free_of hb1; have lb := blk_lt hb1; generalize w.drewN nq = w1 at *; clear hb; go_wp2_with fail
 have hb2 := blk_set hb1 1 (.int .i64 ((k : Int) + 1)); simp only [List.setIfInBounds_toArray, List.set_cons_zero, List.set_cons_succ] at hb2; have X2 := X1.setCell (p := ⟨b, 1, none⟩) (.inl rfl) (.int .i64 ((k : Int) + 1)); generalize w1.setCell ⟨b, 1, none⟩ (.int .i64 ((k : Int) + 1)) = w2 at *; clear R Z lb hb1 X1; have R := cells_of hb2; have lb := blk_lt hb2
 have e1 : IntKind.i64.wrap ((k : Int) + 1 - 1) = (k : Int) := by rw [show (k : Int) + 1 - 1 = k by omega]; exact IntWalk.i64_in _ (by omega)
 go_quiet (fail)
 go_wp2_with fail
 go_ret2
 exact ⟨rfl, X2.drewN _, hb2⟩
theorem accD_cons (most v : Int) (c : UInt8) (l : List UInt8) : accD most v (c :: l) = accD most (if most < v * 10 + ((c.toNat : Int) - 48) then most else v * 10 + ((c.toNat : Int) - 48)) l := rfl
set_option maxRecDepth 100000 in
set_option maxHeartbeats 1000000 in
theorem digits_any (s : ByteArray) (k b : Nat) (w : World) (most : Int) (hs : s.size ≤ 9223372036854775807) (hb : w.heap[b]? = some (rdBox s k)) (hk : k ≤ s.size) (m0 : 0 ≤ most) (m1 : most ≤ 1000000000000) :
 Calls Tryz.prog 113 #[clo b, .int .i64 most] w fun e w' => e = .returned (.tuple #[.int .i64 (accD most 0 (digL (s.toList.drop k))), .int .i64 ((digL (s.toList.drop k)).length : Nat)]) ∧
  Chg (· = b) w w' ∧ w'.heap[b]? = some (rdBox s ((k + (digL (s.toList.drop k)).length : Nat) : Int)) := by
 go_enter Tryz.func113, Tryz.ntmps113
 go_wp2_with fail
 go_loopw [4, 5] (fun v n wr => ∃ (m : Nat) (x : Int), k + m ≤ s.size ∧ n = .int .i64 m ∧ v = .int .i64 x ∧ 0 ≤ x ∧ x ≤ most ∧ accD most 0 (digL (s.toList.drop k)) = accD most x (digL (s.toList.drop (k + m))) ∧
  (digL (s.toList.drop k)).length = m + (digL (s.toList.drop (k + m))).length ∧ Chg (· = b) w wr ∧ wr.heap[b]? = some (rdBox s ((k + m : Nat) : Int))) (fun _ n _ => s.size - (intOf n).toNat)
 case atStart => exact ⟨0, 0, by omega, rfl, rfl, Int.le_refl _, m0, rfl, by simp, Chg.refl _ _, hb⟩
 case round =>
  obtain ⟨m, x, hm, rfl, rfl, x0, x1, h1, h2, X, hb1⟩ := hrel; have H1 := hid' h1; have H2 := hid' h2; clear h1 h2 hb
  by_cases hlt : k + m < s.size
  · by_cases c1 : 48 ≤ (s[k + m].toNat : Int)
    · by_cases c2 : (s[k + m].toNat : Int) ≤ 57
      · have HY := hid' (digL_yes s (k + m) hlt c1 c2); go_wp2_with fail
        refine (digit_yes s (k + m) b _ hs hb1 hlt c1 c2).mono ?_; rintro e w1 ⟨rfl, X1, hb2⟩; have HA := hid' (accD_cons most x s[k + m] (digL (s.toList.drop (k + m + 1)))); generalize (s[k + m].toNat : Int) = c at *; go_wp2_with fail
        go_roundw
        case rel =>
         refine ⟨m + 1, _, by omega, by go_num, rfl, ?_, ?_, by rw [H1.out, HY.out, HA.out]; rfl, by rw [H2.out, HY.out, List.length_cons]; simp only [Nat.add_assoc]; omega, X.trans X1, hb2⟩
         · split <;> omega
         · split <;> omega
        case measure => simp [intOf]; omega
      · have HY := hid' (digL_no s (k + m) hlt (.inr (by omega))); go_wp2_with fail
        refine (digit_high s (k + m) b _ hb1 hlt (by omega)).mono ?_; rintro e w1 ⟨rfl, X1⟩; go_wp2_with fail
        go_ret2
        refine ⟨by rw [H1.out, HY.out, H2.out, HY.out]; rfl, X.trans (X1.mono (fun _ _ e => e.elim)), ?_⟩; rw [H2.out, HY.out]; exact X1.blk hb1 id
    · have HY := hid' (digL_no s (k + m) hlt (.inl (by omega))); go_wp2_with fail
      refine (digit_low s (k + m) b _ hb1 hlt (by omega)).mono ?_; rintro e w1 ⟨rfl, X1⟩; go_wp2_with fail
      go_ret2
      refine ⟨by rw [H1.out, HY.out, H2.out, HY.out]; rfl, X.trans (X1.mono (fun _ _ e => e.elim)), ?_⟩; rw [H2.out, HY.out]; exact X1.blk hb1 id
  · have HY := hid' (digL_end s (k + m) (by omega)); go_wp2_with fail
    refine (digit_end s (k + m) b _ hb1 (by omega)).mono ?_; rintro e w1 ⟨rfl, X1⟩; go_wp2_with fail
    go_ret2
    refine ⟨by rw [H1.out, HY.out, H2.out, HY.out]; rfl, X.trans (X1.mono (fun _ _ e => e.elim)), ?_⟩; rw [H2.out, HY.out]; exact X1.blk hb1 id
theorem signed_any (v : Int) (b : Bool) (h0 : -1000000000000 ≤ v) (h1 : v ≤ 1000000000000) (w : World) :
 Calls Tryz.prog 114 #[.int .i64 v, .bool b] w fun e w' => e = .returned (.int .i64 (if b = true then -v else v)) ∧ w = w' := by
 cases b
 all_goals
  go_enter Tryz.func114, Tryz.ntmps114
  go_wp2
  go_ret; exact ⟨by simp, rfl⟩
def nearI (a b : Int) : Int := if b - a % b < a % b ∨ (a % b = b - a % b ∧ a / b % 2 = 1) then a / b + 1 else a / b
set_option maxRecDepth 100000 in
set_option maxHeartbeats 1000000 in
theorem nearest_any (a b : Int) (h0 : 0 ≤ a) (h1 : a ≤ 1000000000000000000) (h2 : 1 ≤ b) (h3 : b ≤ 1000000000000000000) (w : World) :
 Calls Tryz.prog 116 #[.int .i64 a, .int .i64 b] w fun e w' => e = .returned (.int .i64 (nearI a b)) ∧ Chg NoB w w' := by
 have hr : nearI a b = if b - a % b < a % b ∨ (a % b = b - a % b ∧ a / b % 2 = 1) then a / b + 1 else a / b := rfl
 have HR := hid' hr; clear hr; have q0 : 0 ≤ a / b := Int.ediv_nonneg h0 (by omega); have q1 : a / b ≤ a := Int.ediv_le_self b h0; have r0 : 0 ≤ a % b := Int.emod_nonneg _ (by omega); have r1 : a % b < b := Int.emod_lt_of_pos _ (by omega); have t1 : a.tdiv b = a / b := Int.tdiv_eq_ediv_of_nonneg h0; have t2 : a.tmod b = a % b := Int.tmod_eq_emod_of_nonneg h0; have t3 : IntKind.i64.wrap (a / b) = a / b := IntWalk.i64_in _ (by omega)
 have nb : ¬ b = 0 := by omega
 go_enter Tryz.func116, Tryz.ntmps116
 go_wp2_with fail
 go_quiet (fail)
 have X := (Chg.refl NoB w).drewN nq; generalize w.drewN nq = w1 at *; generalize a / b = q at *; generalize a % b = r at *; clear t1 t2 t3
 have hq : 0 ≤ q % 2 := by omega
 by_cases c1 : b - r < r
 · go_wp2_with fail
   go_ret; exact ⟨by rw [HR.out, if_pos (.inl c1)]; rfl, X⟩
 · have c1' : r ≤ b - r := by omega
   by_cases c2 : r = b - r
   · have c2' : (r == b - r) = true := by simpa using c2
     by_cases c3 : q % 2 = 1
     · have c3' : (q % 2 == 1) = true := by simpa using c3
       have C2 := hid' c2; have C3 := hid' c3; clear c2 c3; go_wp2_with fail
       go_ret; exact ⟨by rw [HR.out, if_pos (.inr ⟨C2.out, C3.out⟩)]; rfl, X⟩
     · have c3' : (q % 2 == 1) = false := by simpa using c3
       have C2 := hid' c2; have C3 := hid' c3; clear c2 c3; go_wp2_with fail
       go_ret; exact ⟨by rw [HR.out, if_neg (by rintro (h | ⟨-, h⟩); omega; exact C3.out h)]; rfl, X⟩
   · have c2' : (r == b - r) = false := by simpa using c2
     have C2 := hid' c2; clear c2; go_wp2_with fail
     go_ret; exact ⟨by rw [HR.out, if_neg (by rintro (h | ⟨h, -⟩); omega; exact C2.out h)]; rfl, X⟩
theorem pow_18 (j : Nat) (h : j ≤ 18) : (1 : Int) ≤ 10 ^ j ∧ (10 : Int) ^ j ≤ 1000000000000000000 := by
 refine ⟨Int.pow_pos (by decide), ?_⟩; have : (10 : Nat) ^ j ≤ 10 ^ 18 := Nat.pow_le_pow_right (by decide) h
 have e : ((10 ^ j : Nat) : Int) = (10 : Int) ^ j := by simp
 omega
set_option maxRecDepth 100000 in
set_option maxHeartbeats 1000000 in
theorem tens_any (n : Nat) (h : n ≤ 18) (w : World) : Calls Tryz.prog 115 #[.int .i64 n] w fun e w' => e = .returned (.int .i64 (10 ^ n)) ∧ w = w' := by
 have h' : (n : Int) ≤ 18 := by omega
 go_enter Tryz.func115, Tryz.ntmps115
 go_wp2_with fail
 go_loop [3, 5] (fun p i => ∃ j : Nat, j ≤ n ∧ i = .int .i64 j ∧ p = .int .i64 (10 ^ j)) (fun _ i => n - (intOf i).toNat)
 case atStart => exact ⟨0, Nat.zero_le _, rfl, rfl⟩
 case round =>
  obtain ⟨j, hj, rfl, rfl⟩ := hrel; have hp := pow_18 j (by omega)
  by_cases hlt : j < n
  · have hlt' : (j : Int) < n := by omega
    have hp2 := (pow_18 (j + 1) (by omega)).2; rw [Int.pow_succ] at hp2; have HE := hid' (Int.pow_succ (10 : Int) j); generalize (10 : Int) ^ j = p at *; obtain ⟨p0, p1⟩ := hp; go_wp2_with fail
    go_round
    case rel => exact ⟨j + 1, by omega, by go_num, by rw [HE.out]⟩
    case measure => simp [intOf]; omega
  · obtain rfl : j = n := by omega
    go_wp2_with fail
    go_ret; exact ⟨rfl, rfl⟩
def accB (base : Int) : Int → List UInt8 → Option Int
 | v, [] => some v
 | v, c :: l => if valueI c.toNat < 0 ∨ base ≤ valueI c.toNat then none else accB base (if 2147483648 < v * base + valueI c.toNat then 2147483648 else v * base + valueI c.toNat) l
def basedF (l : List UInt8) : Option Int :=
 if (digL l).length < 1 ∨ 2 < (digL l).length ∨ l.head? = some 48 ∨ accD 1000 0 (digL l) < 2 ∨ 36 < accD 1000 0 (digL l) ∨ l.length ≤ (digL l).length + 1 ∨ l[(digL l).length]? ≠ some 35 then none
 else accB (accD 1000 0 (digL l)) 0 (l.drop ((digL l).length + 1))
def basedV : Option Int → Value
 | none => .tuple #[.int .i64 0, .bool false]
 | some v => .tuple #[.int .i64 v, .bool true]
theorem lst_get (s : ByteArray) (j : Nat) (h : j < s.size) : s.toList[j]? = some s[j] := by
 have h1 := drop_at s j h
 have h2 : (s.toList.drop j)[0]? = s.toList[j]? := by simp
 rw [← h2, h1]; rfl
theorem accB_yes (base v : Int) (s : ByteArray) (j : Nat) (h : j < s.size) (h1 : ¬ valueI s[j].toNat < 0) (h2 : ¬ base ≤ valueI s[j].toNat) :
 accB base v (s.toList.drop j) = accB base (if 2147483648 < v * base + valueI s[j].toNat then 2147483648 else v * base + valueI s[j].toNat) (s.toList.drop (j + 1)) := by
 rw [drop_at s j h, accB, if_neg (by omega)]
theorem accB_no (base v : Int) (s : ByteArray) (j : Nat) (h : j < s.size) (h1 : valueI s[j].toNat < 0 ∨ base ≤ valueI s[j].toNat) : accB base v (s.toList.drop j) = none := by
 rw [drop_at s j h, accB, if_pos h1]
theorem accB_end (base v : Int) (s : ByteArray) (j : Nat) (h : s.size ≤ j) : accB base v (s.toList.drop j) = some v := by rw [drop_end s j h]; rfl
theorem valueI_le (c : Int) : valueI c ≤ 35 ∧ -1 ≤ valueI c := by
 unfold valueI; split
 · omega
 · split
   · omega
   · split <;> omega
theorem accD_le (most : Int) (h : 0 ≤ most) (l : List UInt8) (hl : ∀ c ∈ l, isDig c = true) (v : Int) (h0 : 0 ≤ v) (h1 : v ≤ most) : 0 ≤ accD most v l ∧ accD most v l ≤ most := by
 induction l generalizing v with
 | nil => exact ⟨h0, h1⟩
 | cons c l ih =>
  rw [accD_cons]; have hc := hl c (List.mem_cons_self ..); simp only [isDig, Bool.and_eq_true, decide_eq_true_eq] at hc
  refine ih (fun x hx => hl x (List.mem_cons_of_mem _ hx)) _ ?_ ?_ <;> (split <;> omega)
theorem digL_all (l : List UInt8) : ∀ c ∈ digL l, isDig c = true := fun c hc => by
 have := List.all_takeWhile (p := isDig) (l := l); rw [List.all_eq_true] at this; exact this c hc
theorem digL_len (l : List UInt8) : (digL l).length ≤ l.length := (List.takeWhile_sublist _).length_le
set_option maxRecDepth 100000 in
set_option maxHeartbeats 4000000 in
theorem based_any (s : ByteArray) (hs : s.size ≤ 9223372036854775807) (w : World) :
 Calls Tryz.prog 111 #[.string s] w fun e w' => e = .returned (basedV (basedF s.toList)) ∧ Chg NoB w w' := by
 have hr : basedF s.toList = if (digL s.toList).length < 1 ∨ 2 < (digL s.toList).length ∨ s.toList.head? = some 48 ∨ accD 1000 0 (digL s.toList) < 2 ∨ 36 < accD 1000 0 (digL s.toList) ∨ s.toList.length ≤ (digL s.toList).length + 1 ∨ s.toList[(digL s.toList).length]? ≠ some 35 then none
  else accB (accD 1000 0 (digL s.toList)) 0 (s.toList.drop ((digL s.toList).length + 1)) := rfl
 have hD := fun (w : World) (b : Nat) (hb : w.heap[b]? = some (rdBox s ((0 : Nat) : Int))) => digits_any s 0 b w 1000 hs hb (Nat.zero_le _) (by omega) (by omega); rw [List.drop_zero] at hD; have hnl := digL_len s.toList; have hbd := accD_le 1000 (by omega) (digL s.toList) (digL_all _) 0 (by omega) (by omega); rw [size_lst] at hnl hr; generalize accD 1000 0 (digL s.toList) = base at *; generalize (digL s.toList).length = n at *; have HR := hid' hr; clear hr; have hB := blk_new w (rdBox s 0); have X0 := (Chg.refl NoB w).alloc (rdBox s 0); go_enter Tryz.func111, Tryz.ntmps111
 go_wp2_with fail
 refine (hD _ _ hB).mono ?_; rintro e w1 ⟨rfl, X1, hb1⟩; rw [Nat.zero_add] at hb1; have X2 : Chg NoB w w1 := X0.trans' X1 (fun i hi e => by omega); clear hD hB X0 X1; have R := cells_of hb1; have lb := blk_lt hb1; clear hb1; obtain ⟨bd0, bd1⟩ := hbd
 by_cases a1 : n < 1
 · have a1' : (n : Int) < 1 := by omega
   go_wp2_with fail
   go_ret2
   exact ⟨by rw [HR.out, if_pos (.inl a1)]; rfl, X2⟩
 by_cases a2 : 2 < n
 · have a2' : 2 < (n : Int) := by omega
   have a1' : 1 ≤ (n : Int) := by omega
   go_wp2_with fail
   go_ret2
   exact ⟨by rw [HR.out, if_pos (.inr (.inl a2))]; rfl, X2⟩
 have a1' : 1 ≤ (n : Int) := by omega
 have a2' : (n : Int) ≤ 2 := by omega
 have hsz : 0 < s.size := by omega
 have hh : s.toList.head? = some s[0] := by rw [List.head?_eq_getElem?]; exact lst_get s 0 hsz
 by_cases a3 : s[0] = 48
 · have a3' : ((s[0].toNat : Int) == 48) = true := by rw [a3]; rfl
   have HR2 := hid' (HR.out.trans (if_pos (.inr (.inr (.inl (by rw [hh, a3])))))); clear hh a3; go_wp2_with fail
   go_ret2
   exact ⟨by rw [HR2.out]; rfl, X2⟩
 have a3' : ((s[0].toNat : Int) == 48) = false := by
  simp only [beq_eq_false_iff_ne, ne_eq]; intro e; exact a3 (UInt8.toNat_inj.1 (by simp; omega))
 have HH := hid' (show s.toList.head? ≠ some 48 by rw [hh]; simpa using a3); clear hh a3
 by_cases a4 : base < 2
 · go_wp2_with fail
   go_ret2
   exact ⟨by rw [HR.out, if_pos (.inr (.inr (.inr (.inl a4))))]; rfl, X2⟩
 have a4' : 2 ≤ base := by omega
 by_cases a5 : 36 < base
 · go_wp2_with fail
   go_ret2
   exact ⟨by rw [HR.out, if_pos (.inr (.inr (.inr (.inr (.inl a5)))))]; rfl, X2⟩
 have a5' : base ≤ 36 := by omega
 by_cases a6 : s.size ≤ n + 1
 · have a6' : (s.size : Int) - 1 ≤ n := by omega
   go_wp2_with fail
   go_ret2
   exact ⟨by rw [HR.out, if_pos (.inr (.inr (.inr (.inr (.inr (.inl a6))))))]; rfl, X2⟩
 have a6' : (n : Int) < (s.size : Int) - 1 := by omega
 have hn : n < s.size := by omega
 have hn' : (n : Int) < s.size := by omega
 have hg := lst_get s n hn
 by_cases a7 : s[n] = 35
 · have a7' : ((s[n].toNat : Int) != 35) = false := by rw [a7]; rfl
   have HR2 := hid' (HR.out.trans (if_neg (by
    rintro (h | h | h | h | h | h | h)
    · exact a1 h
    · exact a2 h
    · exact HH.out h
    · exact a4 h
    · exact a5 h
    · exact a6 h
    · exact h (by rw [hg, a7]))))
   clear hg a7 HR; go_wp2_with fail
   go_loop [2, 7] (fun v i => ∃ (j : Nat) (x : Int), j ≤ s.size ∧ i = .int .i64 j ∧ v = .int .i64 x ∧ 0 ≤ x ∧ x ≤ 2147483648 ∧ basedF s.toList = accB base x (s.toList.drop j)) (fun _ i => s.size - (intOf i).toNat)
   case atStart => exact ⟨n + 1, 0, by omega, by go_num, rfl, by omega, by omega, HR2.out⟩
   case round =>
    obtain ⟨j, x, hj, rfl, rfl, x0, x1, h1⟩ := hrel; have H1 := hid' h1; clear h1 R lb
    by_cases hlt : j < s.size
    · have hlt' : (j : Int) < s.size := by omega
      obtain ⟨vl, vm⟩ := valueI_le s[j].toNat
      have u0 : (s[j].toNat : Int) < 256 := by have := s[j].toNat_lt; omega
      by_cases c1 : valueI s[j].toNat < 0
      · have HY := hid' (accB_no base x s j hlt (.inl c1))
        go_wp2_with (go_at_call 144; refine (value_any _ (by omega) (by omega) _).mono ?_; rintro e w' ⟨rfl, rfl⟩)
        go_ret2
        exact ⟨by rw [H1.out, HY.out]; rfl, X2⟩
      · by_cases c2 : base ≤ valueI s[j].toNat
        · have HY := hid' (accB_no base x s j hlt (.inr c2))
          have c1' : 0 ≤ valueI s[j].toNat := by omega
          go_wp2_with (go_at_call 144; refine (value_any _ (by omega) (by omega) _).mono ?_; rintro e w' ⟨rfl, rfl⟩)
          go_ret2
          exact ⟨by rw [H1.out, HY.out]; rfl, X2⟩
        · have HY := hid' (accB_yes base x s j hlt c1 c2)
          have c1' : 0 ≤ valueI s[j].toNat := by omega
          have c2' : valueI s[j].toNat < base := by omega
          have m1 : 0 ≤ x * base := Int.mul_nonneg x0 (by omega); have m2 : x * base ≤ 2147483648 * 36 := Int.mul_le_mul x1 a5' (by omega) (by omega)
          go_wp2_with (go_at_call 144; refine (value_any _ (by omega) (by omega) _).mono ?_; rintro e w' ⟨rfl, rfl⟩)
          go_round
          case rel =>
           refine ⟨j + 1, _, by omega, by go_num, rfl, ?_, ?_, by rw [H1.out, HY.out]⟩
           · split <;> omega
           · split <;> omega
          case measure => simp [intOf]; omega
    · obtain rfl : j = s.size := by omega
      have HY := hid' (accB_end base x s s.size (Nat.le_refl _)); go_wp2_with fail
      go_ret2
      exact ⟨by rw [H1.out, HY.out]; rfl, X2⟩
 · have a7' : ((s[n].toNat : Int) != 35) = true := by
    simp only [bne_iff_ne, ne_eq]; intro e; exact a7 (UInt8.toNat_inj.1 (by simp; omega))
   have HR2 := hid' (HR.out.trans (if_pos (.inr (.inr (.inr (.inr (.inr (.inr (by rw [hg]; simpa using a7))))))))); clear hg a7; go_wp2_with fail
   go_ret2
   exact ⟨by rw [HR2.out]; rfl, X2⟩
set_option maxRecDepth 100000 in
set_option maxHeartbeats 2000000 in
theorem rkind_any (c : Int) (w : World) : Calls Tryz.prog 124 #[.int .u8 c] w fun e w' => e = .returned (.int .i64 (kindI c)) ∧ w = w' := by
 have hr : kindI c = if c = 0 ∨ c = 9 ∨ c = 10 ∨ c = 12 ∨ c = 13 ∨ c = 32 then 1
  else if c = 40 ∨ c = 41 ∨ c = 60 ∨ c = 62 ∨ c = 91 ∨ c = 93 ∨ c = 123 ∨ c = 125 ∨ c = 47 ∨ c = 37 then 2 else 3 := rfl
 have HR := hid' hr; clear hr; go_enter Tryz.func124, Tryz.ntmps124
 go_wp2
 all_goals
  go_ret; rw [HR.out]; refine ⟨?_, rfl⟩
  simp_all
set_option maxRecDepth 100000 in
set_option maxHeartbeats 2000000 in
theorem rvalue_any (c : Int) (h0 : 0 ≤ c) (h1 : c < 256) (w : World) : Calls Tryz.prog 145 #[.int .u8 c] w fun e w' => e = .returned (.int .i64 (valueI c)) ∧ w = w' := by
 have hr : valueI c = if 48 ≤ c ∧ c ≤ 57 then c - 48 else if 97 ≤ c ∧ c ≤ 122 then c - 87 else if 65 ≤ c ∧ c ≤ 90 then c - 55 else -1 := rfl
 have HR := hid' hr; clear hr
 by_cases a1 : 48 ≤ c
 all_goals by_cases a2 : c ≤ 57
 all_goals by_cases a3 : 97 ≤ c
 all_goals by_cases a4 : c ≤ 122
 all_goals by_cases a5 : 65 ≤ c
 all_goals by_cases a6 : c ≤ 90
 all_goals first | (exfalso; omega) | skip
 all_goals
  go_enter Tryz.func145, Tryz.ntmps145
  go_wp2
  go_ret; rw [HR.out]; refine ⟨congrArg (fun z => Ending.returned (Value.int .i64 z)) ?_, rfl⟩
  split <;> (try split) <;> (try split) <;> omega
set_option maxRecDepth 100000 in
set_option maxHeartbeats 2000000 in
theorem rregular_any (s : ByteArray) (a : Nat) (hs : s.size ≤ 9223372036854775807) (ha : a ≤ 9223372036854775807) (w : World) :
 Calls Tryz.prog 81 #[.string s, .int .i64 a] w fun e w' => e = .returned (.int .i64 (regL (s.toList.drop a) : Nat)) ∧ w = w' := by
 have ha0 : (0 : Int) ≤ a := by omega
 by_cases h : s.size ≤ a
 · have h' : (s.size : Int) ≤ a := by omega
   have HE := hid' (regL_end s a h); go_enter Tryz.func81, Tryz.ntmps81
   go_wp2_with fail
   go_ret; rw [HE.out]; exact ⟨rfl, rfl⟩
 · have h' : (a : Int) < s.size := by omega
   go_enter Tryz.func81, Tryz.ntmps81
   go_wp2_with fail
   go_loop [5] (fun n => ∃ j : Nat, a + j ≤ s.size ∧ n = .int .i64 j ∧ regL (s.toList.drop a) = j + regL (s.toList.drop (a + j))) (fun n => s.size - (intOf n).toNat)
   case atStart => exact ⟨0, by omega, rfl, by simp⟩
   case round =>
    obtain ⟨j, hj2, rfl, hj3⟩ := hrel; have HJ := hid' hj3; clear hj3
    have e0 : ((a : Int) + (j : Int)).toNat = a + j := by omega
    by_cases hlt : a + j < s.size
    · have hlt' : (a : Int) + (j : Int) < s.size := by omega
      have hg0 : (0 : Int) ≤ (a : Int) + (j : Int) := by omega
      have HS := hid' (regL_at s (a + j) hlt)
      by_cases hk : kindI s[a + j].toNat = 3
      · have hk' : (kindI s[a + j].toNat == 3) = true := by simpa using hk
        have HK := hid' hk; clear hk
        go_wp2_with (go_at_call 124; refine (rkind_any _ _).mono ?_; rintro e w' ⟨rfl, rfl⟩)
        go_round
        case rel => exact ⟨j + 1, by omega, by go_num, by rw [HJ.out, HS.out, if_pos HK.out, Nat.add_assoc]; omega⟩
        case measure => simp [intOf]; omega
      · have hk' : (kindI s[a + j].toNat == 3) = false := by simpa using hk
        have HK := hid' hk; clear hk
        go_wp2_with (go_at_call 124; refine (rkind_any _ _).mono ?_; rintro e w' ⟨rfl, rfl⟩)
        go_ret; exact ⟨by rw [HJ.out, HS.out, if_neg HK.out]; go_num, rfl⟩
    · have hlt' : ¬ (a : Int) + (j : Int) < s.size := by omega
      have HS := hid' (regL_end s (a + j) (by omega)); go_wp2_with fail
      go_ret; exact ⟨by rw [HJ.out, HS.out]; go_num, rfl⟩
def posL (c : UInt8) (l : List UInt8) : Nat := (l.takeWhile (fun x => x != c)).length
def findI (c : UInt8) (l : List UInt8) : Int := if posL c l < l.length then ((posL c l : Nat) : Int) else -1
def accR (base : Int) (v : Int) (l : List UInt8) : Int := l.foldl (fun v c => if 1099511627776 < v * base + valueI c.toNat then 1099511627776 else v * base + valueI c.toNat) v
theorem accR_cons (base v : Int) (c : UInt8) (l : List UInt8) : accR base v (c :: l) = accR base (if 1099511627776 < v * base + valueI c.toNat then 1099511627776 else v * base + valueI c.toNat) l := rfl
set_option maxRecDepth 100000 in
set_option maxHeartbeats 2000000 in
theorem rdigit_any (c : Int) (w : World) : Calls Tryz.prog 146 #[.int .u8 c] w fun e w' => e = .returned (.bool (decide (48 ≤ c) && decide (c ≤ 57))) ∧ w = w' := by
 by_cases a1 : 48 ≤ c
 all_goals by_cases a2 : c ≤ 57
 all_goals
  go_enter Tryz.func146, Tryz.ntmps146
  go_wp2
  go_ret; simp [a1, a2]
set_option maxRecDepth 100000 in
set_option maxHeartbeats 2000000 in
theorem rall_any (s : ByteArray) (hs : s.size ≤ 9223372036854775807) (w : World) :
 Calls Tryz.prog 121 #[.string s] w fun e w' => e = .returned (.bool (s.toList.all isDig)) ∧ w = w' := by
 go_enter Tryz.func121, Tryz.ntmps121
 go_wp2_with fail
 go_loop [3] (fun n => ∃ j : Nat, j ≤ s.size ∧ n = .int .i64 j ∧ s.toList.all isDig = (s.toList.drop j).all isDig) (fun n => s.size - (intOf n).toNat)
 case atStart => exact ⟨0, Nat.zero_le _, rfl, rfl⟩
 case round =>
  obtain ⟨j, hj, rfl, hj3⟩ := hrel; have HJ := hid' hj3; clear hj3
  by_cases hlt : j < s.size
  · have hlt' : (j : Int) < s.size := by omega
    have h0j : (0 : Int) ≤ j := by omega
    have HS := hid' (drop_at s j hlt)
    obtain ⟨v, hv⟩ : ∃ v, isDig s[j] = v := ⟨_, rfl⟩
    have hd : (decide (48 ≤ (s[j].toNat : Int)) && decide ((s[j].toNat : Int) ≤ 57)) = v := hv; have HV := hid' hv; clear hv; have HC := hid' (fun w => by have := rdigit_any s[j].toNat w; rwa [hd] at this : ∀ w, Calls Tryz.prog 146 #[.int .u8 s[j].toNat] w fun e w' => e = .returned (.bool v) ∧ w = w'); clear hd
    cases v with
    | true =>
     go_wp2_with (go_at_call 146; refine (HC.out _).mono ?_; rintro e w' ⟨rfl, rfl⟩)
     go_round
     case rel => exact ⟨j + 1, by omega, by go_num, by rw [HJ.out, HS.out, List.all_cons, HV.out]; rfl⟩
     case measure => simp [intOf]; omega
    | false =>
     go_wp2_with (go_at_call 146; refine (HC.out _).mono ?_; rintro e w' ⟨rfl, rfl⟩)
     go_ret; exact ⟨by rw [HJ.out, HS.out, List.all_cons, HV.out]; rfl, rfl⟩
  · have HS := hid' (drop_end s j (by omega))
    have hlt' : ¬ (j : Int) < s.size := by omega
    go_wp2_with fail
    go_ret; exact ⟨by rw [HJ.out, HS.out]; rfl, rfl⟩
theorem posL_cons (c x : UInt8) (l : List UInt8) : posL c (x :: l) = if x = c then 0 else posL c l + 1 := by
 unfold posL; rw [List.takeWhile_cons]
 by_cases h : x = c <;> simp [h]
set_option maxRecDepth 100000 in
set_option maxHeartbeats 2000000 in
theorem rfind_any (s : ByteArray) (c : UInt8) (hs : s.size ≤ 9223372036854775807) (w : World) :
 Calls Tryz.prog 119 #[.string s, .int .u8 c.toNat] w fun e w' => e = .returned (.int .i64 (findI c s.toList)) ∧ w = w' := by
 have HF := hid' (show findI c s.toList = if posL c s.toList < s.size then ((posL c s.toList : Nat) : Int) else -1 by unfold findI; rw [size_lst]); go_enter Tryz.func119, Tryz.ntmps119
 go_wp2_with fail
 go_loop [5] (fun n => ∃ j : Nat, j ≤ s.size ∧ n = .int .i64 j ∧ posL c s.toList = j + posL c (s.toList.drop j)) (fun n => s.size - (intOf n).toNat)
 case atStart => exact ⟨0, Nat.zero_le _, rfl, by simp⟩
 case round =>
  obtain ⟨j, hj, rfl, hj3⟩ := hrel; have HJ := hid' hj3; clear hj3
  by_cases hlt : j < s.size
  · have hlt' : (j : Int) < s.size := by omega
    have h0j : (0 : Int) ≤ j := by omega
    have HS := hid' (drop_at s j hlt)
    by_cases hk : s[j] = c
    · have hk' : ((s[j].toNat : Int) == (c.toNat : Int)) = true := by rw [hk]; simp
      have HK := hid' hk; clear hk; go_wp2_with fail
      go_ret
      have e : posL c s.toList = j := by rw [HJ.out, HS.out, posL_cons, if_pos HK.out]; rfl
      exact ⟨by rw [HF.out, e, if_pos hlt]; rfl, rfl⟩
    · have hk' : ((s[j].toNat : Int) == (c.toNat : Int)) = false := by
       simp only [beq_eq_false_iff_ne, ne_eq]; intro e; exact hk (UInt8.toNat_inj.1 (by omega))
      have HK := hid' hk; clear hk; go_wp2_with fail
      go_round
      case rel => exact ⟨j + 1, by omega, by go_num, by rw [HJ.out, HS.out, posL_cons, if_neg HK.out]; omega⟩
      case measure => simp [intOf]; omega
  · have HS := hid' (drop_end s j (by omega))
    have hlt' : ¬ (j : Int) < s.size := by omega
    go_wp2_with fail
    go_ret
    have e : posL c s.toList = j := by rw [HJ.out, HS.out]; rfl
    exact ⟨by rw [HF.out, e, if_neg hlt]; rfl, rfl⟩
set_option maxRecDepth 100000 in
set_option maxHeartbeats 2000000 in
theorem radd_any (s : ByteArray) (base : Int) (h0 : 0 ≤ base) (h1 : base ≤ 36) (hv : ∀ c ∈ s.toList, 0 ≤ valueI c.toNat) (hs : s.size ≤ 9223372036854775807) (w : World) :
 Calls Tryz.prog 122 #[.string s, .int .i64 base] w fun e w' => e = .returned (.int .i64 (accR base 0 s.toList)) ∧ w = w' := by
 go_enter Tryz.func122, Tryz.ntmps122
 go_wp2_with fail
 go_loop [5, 6] (fun v n => ∃ (j : Nat) (x : Int), j ≤ s.size ∧ n = .int .i64 j ∧ v = .int .i64 x ∧ 0 ≤ x ∧ x ≤ 1099511627776 ∧ accR base 0 s.toList = accR base x (s.toList.drop j)) (fun _ n => s.size - (intOf n).toNat)
 case atStart => exact ⟨0, 0, Nat.zero_le _, rfl, rfl, by omega, by omega, rfl⟩
 case round =>
  obtain ⟨j, x, hj, rfl, rfl, x0, x1, hj3⟩ := hrel; have HJ := hid' hj3; clear hj3
  by_cases hlt : j < s.size
  · have hlt' : (j : Int) < s.size := by omega
    have h0j : (0 : Int) ≤ j := by omega
    have HS := hid' (drop_at s j hlt); have hv0 := hv s[j] (List.mem_of_getElem? (lst_get s j hlt)); have hv1 := (valueI_le s[j].toNat).1; have hm0 : 0 ≤ x * base := Int.mul_nonneg x0 h0; have hm1 : x * base ≤ 1099511627776 * 36 := Int.mul_le_mul x1 h1 h0 (by omega); have HC := hid' (fun w => rvalue_any s[j].toNat (by omega) (by have := s[j].toNat_lt; omega) w); generalize hq : valueI (s[j].toNat : Int) = q at *; have HQ := hid' hq; clear hq hv
    go_wp2_with (go_at_call 145; refine (HC.out _).mono ?_; rintro e w' ⟨rfl, rfl⟩)
    go_round
    case rel => exact ⟨j + 1, _, by omega, by go_num, rfl, by split <;> omega, by split <;> omega, by rw [HJ.out, HS.out, accR_cons, HQ.out]⟩
    case measure => simp [intOf]; omega
  · have HS := hid' (drop_end s j (by omega))
    have hlt' : ¬ (j : Int) < s.size := by omega
    clear hv; go_wp2_with fail
    go_ret; exact ⟨by rw [HJ.out, HS.out]; rfl, rfl⟩
set_option maxRecDepth 100000 in
set_option maxHeartbeats 1000000 in
theorem rten_any (n : Nat) (h : n ≤ 18) (w : World) : Calls Tryz.prog 148 #[.int .i64 n] w fun e w' => e = .returned (.int .i64 (10 ^ n)) ∧ w = w' := by
 have h' : (n : Int) ≤ 18 := by omega
 go_enter Tryz.func148, Tryz.ntmps148
 go_wp2_with fail
 go_loop [0, 3] (fun i p => ∃ j : Nat, j ≤ n ∧ i = .int .i64 j ∧ p = .int .i64 (10 ^ (n - j))) (fun i _ => (intOf i).toNat)
 case atStart => exact ⟨n, Nat.le_refl _, rfl, by simp⟩
 case round =>
  obtain ⟨j, hj, rfl, rfl⟩ := hrel; have hp := pow_18 (n - j) (by omega)
  by_cases hlt : 0 < j
  · have hlt' : 0 < (j : Int) := by omega
    have hp2 := (pow_18 (n - j + 1) (by omega)).2; rw [Int.pow_succ] at hp2
    have HE := hid' (show (10 : Int) * 10 ^ (n - j) = 10 ^ (n - (j - 1)) by
     rw [show n - (j - 1) = n - j + 1 by omega, Int.pow_succ]; omega)
    generalize (10 : Int) ^ (n - j) = p at *; obtain ⟨p0, p1⟩ := hp; go_wp2_with fail
    go_round
    case rel => exact ⟨j - 1, by omega, by go_num, by rw [HE.out]⟩
    case measure => simp [intOf]; omega
  · obtain rfl : j = 0 := by omega
    go_wp2_with fail
    go_ret; exact ⟨rfl, rfl⟩
set_option maxRecDepth 100000 in
set_option maxHeartbeats 1000000 in
theorem mul64_any (x y : Nat) (hx : x < 18446744073709551616) (hy : y < 18446744073709551616) (w : World) :
 Calls Tryz.prog 164 #[.int .u64 x, .int .u64 y] w fun e w' => e = .returned (.tuple #[.int .u64 ((x * y / 18446744073709551616 : Nat) : Int), .int .u64 ((x * y % 18446744073709551616 : Nat) : Int)]) ∧ w = w' := by
 obtain ⟨bd, bt, bw, hhi⟩ := Lib.mul64_hi x y hx hy; have ba := Lib.half_mul_le (a := x / 4294967296) (b := y / 4294967296) (by omega) (by omega); have bb := Lib.half_mul_le (a := x / 4294967296) (b := y % 4294967296) (by omega) (by omega); have bc := Lib.half_mul_le (a := x % 4294967296) (b := y / 4294967296) (by omega) (by omega)
 have ba' : x / 4294967296 * (y / 4294967296) < 18446744073709551616 := by omega
 have bb' : x / 4294967296 * (y % 4294967296) < 18446744073709551616 := by omega
 have bc' : x % 4294967296 * (y / 4294967296) < 18446744073709551616 := by omega
 have bh1 : x / 4294967296 * (y / 4294967296) + (x / 4294967296 * (y % 4294967296) + x % 4294967296 * (y % 4294967296) / 4294967296) / 4294967296 < 18446744073709551616 := by omega
 have bh : x / 4294967296 * (y / 4294967296) + (x / 4294967296 * (y % 4294967296) + x % 4294967296 * (y % 4294967296) / 4294967296) / 4294967296 + ((x / 4294967296 * (y % 4294967296) + x % 4294967296 * (y % 4294967296) / 4294967296) % 4294967296 + x % 4294967296 * (y / 4294967296)) / 4294967296 < 18446744073709551616 := by omega
 go_enter Tryz.func164, Tryz.ntmps164
 go_wp2
 simp only [Mul64.maskN x hx, Mul64.maskN y hy, Mul64.divN, Mul64.mulN, Mul64.addN, Mul64.wrapN _ bd, Mul64.wrapN _ bb', Mul64.wrapN _ bt, Mul64.maskN _ bt, Mul64.wrapN _ bc', Mul64.wrapN _ bw, Mul64.wrapN _ ba', Mul64.wrapN _ bh1, Mul64.wrapN _ bh, Mul64.wrapM (x * y)]; rw [hhi]
 go_ret2
 exact ⟨rfl, rfl⟩
set_option maxRecDepth 100000 in
set_option maxHeartbeats 1000000 in
theorem div64_any (x y : Nat) (hx : x < 18446744073709551616) (hy : y < 18446744073709551616) (h0 : 0 < y) (w : World) :
 Calls Tryz.prog 165 #[.int .u64 0, .int .u64 x, .int .u64 y] w fun e w' => e = .returned (.tuple #[.int .u64 ((x / y : Nat) : Int), .int .u64 ((x % y : Nat) : Int)]) ∧ Chg NoB w w' := by
 have h0' : (0 : Int) < y := by omega
 have hd : ((x / y : Nat) : Int) = (x : Int) / y := by simp
 have hm : ((x % y : Nat) : Int) = (x : Int) % y := by simp
 have q0 : (0 : Int) ≤ (x : Int) / y := Int.ediv_nonneg (by omega) (by omega); have q1 : (x : Int) / y ≤ x := Int.ediv_le_self y (by omega); have t1 : (x : Int).tdiv y = (x : Int) / y := Int.tdiv_eq_ediv_of_nonneg (by omega); have t2 : (x : Int).tmod y = (x : Int) % y := Int.tmod_eq_emod_of_nonneg (by omega)
 have nb : ¬ (y : Int) = 0 := by omega
 have nb' : ((y : Int) == 0) = false := by simpa using nb
 have t3 : IntKind.u64.wrap ((x : Int) / y) = (x : Int) / y := by rw [IntKind.wrap_u64]; omega
 rw [hd, hm]; clear hd hm; go_enter Tryz.func165, Tryz.ntmps165
 go_wp2_with fail
 go_quiet (fail)
 have X := (Chg.refl NoB w).drewN nq; generalize w.drewN nq = w1 at *; go_wp2_with fail
 go_ret2
 exact ⟨rfl, X⟩
set_option maxRecDepth 100000 in
set_option maxHeartbeats 1000000 in
theorem mag_any (a : Nat) (h : a ≤ 9223372036854775807) (w : World) : Calls Tryz.prog 153 #[.int .i64 a] w fun e w' => e = .returned (.int .u64 a) ∧ w = w' := by
 have h' : (a : Int) ≤ 9223372036854775807 := by omega
 have e : IntKind.u64.wrap (a : Int) = a := by rw [IntKind.wrap_u64]; omega
 go_enter Tryz.func153, Tryz.ntmps153
 go_wp2_with fail
 go_ret; exact ⟨by rfl, rfl⟩
set_option maxRecDepth 100000 in
set_option maxHeartbeats 1000000 in
theorem signed1_any (q : Nat) (h : q < 9223372036854775808) (w : World) : Calls Tryz.prog 159 #[.int .u64 q, .bool false] w fun e w' => e = .returned (.tuple #[.int .i64 q, .bool true]) ∧ w = w' := by
 have h' : (q : Int) < 9223372036854775808 := by omega
 have e : IntKind.i64.wrap (q : Int) = q := IntWalk.i64_in _ (by omega)
 by_cases z : q = 0
 · subst z; go_enter Tryz.func159, Tryz.ntmps159
   go_wp2_with fail
   go_ret2
   exact ⟨rfl, rfl⟩
 · have z' : ((q : Int) == 0) = false := by simp; omega
   go_enter Tryz.func159, Tryz.ntmps159
   go_wp2_with fail
   go_ret2
   exact ⟨rfl, rfl⟩
set_option maxRecDepth 100000 in
set_option maxHeartbeats 1000000 in
theorem share_any (a b d : Nat) (ha : a ≤ 9223372036854775807) (hb : b ≤ 9223372036854775807) (hd : d ≤ 9223372036854775807) (d0 : 0 < d) (hp : a * b < 18446744073709551616) (w : World) :
 Calls Tryz.prog 158 #[.int .i64 a, .int .i64 b, .int .i64 d] w fun e w' => e = .returned (.tuple #[.int .u64 (((a * b : Nat) : Int) / (d : Int)), .int .u64 (((a * b : Nat) : Int) % (d : Int)), .bool false, .bool true]) ∧ Chg NoB w w' := by
 have HA := hid' (fun w => mag_any a ha w); have HB := hid' (fun w => mag_any b hb w); have HD := hid' (fun w => mag_any d hd w); have hM := fun w => mul64_any a b (by omega) (by omega) w; rw [Nat.div_eq_of_lt hp, Nat.mod_eq_of_lt hp] at hM; have HM := hid' hM; have HV := hid' (fun w => div64_any (a * b) d hp (by omega) d0 w)
 have d0' : ¬ (d : Int) ≤ 0 := by omega
 have e1 : decide ((a : Int) < 0) = false := by simp
 have e2 : decide ((b : Int) < 0) = false := by simp
 have e3 : decide ((d : Int) < 0) = false := by simp
 clear hM; generalize a * b = p at *; go_enter Tryz.func158, Tryz.ntmps158
 go_wp2_with fail
 refine (HA.out _).mono ?_; rintro e w1 ⟨rfl, rfl⟩; go_wp2_with fail
 refine (HB.out _).mono ?_; rintro e w1 ⟨rfl, rfl⟩; go_wp2_with fail
 refine (HM.out _).mono ?_; rintro e w1 ⟨rfl, rfl⟩; go_wp2_with fail
 refine (HD.out _).mono ?_; rintro e w1 ⟨rfl, rfl⟩; go_wp2_with fail
 refine (HV.out _).mono ?_; rintro e w1 ⟨rfl, X⟩; go_wp2_with fail
 exact bodyPost_ret (v := .tuple #[.int .u64 ((p : Int) / d), .int .u64 ((p : Int) % d), .bool false, .bool true]) (by simp [results, Tryz.results158, go_sem]) rfl ⟨rfl, X⟩
set_option maxRecDepth 100000 in
set_option maxHeartbeats 1000000 in
theorem muldiv_any (a b d : Nat) (ha : a ≤ 9223372036854775807) (hb : b ≤ 9223372036854775807) (hd : d ≤ 9223372036854775807) (d0 : 0 < d) (hp : a * b < 9223372036854775807) (w : World) :
 Calls Tryz.prog 147 #[.int .i64 a, .int .i64 b, .int .i64 d] w fun e w' => e = .returned (.tuple #[.int .i64 (nearI ((a * b : Nat) : Int) d), .bool true]) ∧ Chg NoB w w' := by
 have HS := hid' (fun w => share_any a b d ha hb hd d0 (by omega) w); have HD := hid' (fun w => mag_any d hd w)
 have hr : nearI ((a * b : Nat) : Int) d = if (d : Int) - ((a * b : Nat) : Int) % (d : Int) < ((a * b : Nat) : Int) % (d : Int) ∨ (((a * b : Nat) : Int) % (d : Int) = (d : Int) - ((a * b : Nat) : Int) % (d : Int) ∧ ((a * b : Nat) : Int) / (d : Int) % 2 = 1) then ((a * b : Nat) : Int) / (d : Int) + 1 else ((a * b : Nat) : Int) / (d : Int) := rfl
 have HR := hid' hr; have r0 : 0 ≤ ((a * b : Nat) : Int) % (d : Int) := Int.emod_nonneg _ (by omega); have r1 : ((a * b : Nat) : Int) % (d : Int) < d := Int.emod_lt_of_pos _ (by omega); have q0 : 0 ≤ ((a * b : Nat) : Int) / (d : Int) := Int.ediv_nonneg (by omega) (by omega); have q1 : ((a * b : Nat) : Int) / (d : Int) ≤ ((a * b : Nat) : Int) := Int.ediv_le_self _ (by omega); clear hr; generalize ((a * b : Nat) : Int) / (d : Int) = q at *; generalize ((a * b : Nat) : Int) % (d : Int) = r at *
 have w1 : IntKind.u64.wrap ((d : Int) - r) = (d : Int) - r := by rw [IntKind.wrap_u64]; omega
 have w2 : IntKind.u64.wrap (q + 1) = q + 1 := by rw [IntKind.wrap_u64]; omega
 have w3 : (q == 18446744073709551615) = false := by simp; omega
 have w4 : q.tmod 2 = q % 2 := Int.tmod_eq_emod_of_nonneg (by omega)
 have HQ0 : ∀ z : Int, 0 ≤ z → z < 9223372036854775808 → ∀ w, Calls Tryz.prog 159 #[.int .u64 z, .bool false] w fun e w' => e = .returned (.tuple #[.int .i64 z, .bool true]) ∧ w = w' := fun z z0 z1 w => by
  have := signed1_any z.toNat (by omega) w; rwa [show ((z.toNat : Nat) : Int) = z by omega] at this
 by_cases c1 : (d : Int) - r < r
 · have HQ := hid' (HQ0 (q + 1) (by omega) (by omega)); clear HQ0; go_enter Tryz.func147, Tryz.ntmps147
   go_wp2_with fail
   refine (HS.out _).mono ?_; rintro e w1 ⟨rfl, X⟩; go_wp2_with fail
   refine (HD.out _).mono ?_; rintro e w1 ⟨rfl, rfl⟩; go_wp2_with fail
   refine (HQ.out _).mono ?_; rintro e w1 ⟨rfl, rfl⟩; go_wp2_with fail
   go_ret2
   exact ⟨by rw [HR.out, if_pos (.inl c1)]; rfl, X⟩
 · have c1' : r ≤ (d : Int) - r := by omega
   by_cases c2 : r = (d : Int) - r
   · have c2' : (r == (d : Int) - r) = true := by simpa using c2
     have C2 := hid' c2; clear c2
     by_cases c3 : q % 2 = 1
     · have c3' : (q % 2 == 1) = true := by simpa using c3
       have C3 := hid' c3; clear c3; have HQ := hid' (HQ0 (q + 1) (by omega) (by omega)); clear HQ0; go_enter Tryz.func147, Tryz.ntmps147
       go_wp2_with fail
       refine (HS.out _).mono ?_; rintro e w1 ⟨rfl, X⟩; go_wp2_with fail
       refine (HD.out _).mono ?_; rintro e w1 ⟨rfl, rfl⟩; go_wp2_with fail
       refine (HQ.out _).mono ?_; rintro e w1 ⟨rfl, rfl⟩; go_wp2_with fail
       go_ret2
       exact ⟨by rw [HR.out, if_pos (.inr ⟨C2.out, C3.out⟩)]; rfl, X⟩
     · have c3' : (q % 2 == 1) = false := by simpa using c3
       have C3 := hid' c3; clear c3; have HQ := hid' (HQ0 q (by omega) (by omega)); clear HQ0; go_enter Tryz.func147, Tryz.ntmps147
       go_wp2_with fail
       refine (HS.out _).mono ?_; rintro e w1 ⟨rfl, X⟩; go_wp2_with fail
       refine (HD.out _).mono ?_; rintro e w1 ⟨rfl, rfl⟩; go_wp2_with fail
       refine (HQ.out _).mono ?_; rintro e w1 ⟨rfl, rfl⟩; go_wp2_with fail
       go_ret2
       exact ⟨by rw [HR.out, if_neg (by rintro (h | ⟨-, h⟩); omega; exact C3.out h)]; rfl, X⟩
   · have c2' : (r == (d : Int) - r) = false := by simpa using c2
     have C2 := hid' c2; clear c2; have HQ := hid' (HQ0 q (by omega) (by omega)); clear HQ0; go_enter Tryz.func147, Tryz.ntmps147
     go_wp2_with fail
     refine (HS.out _).mono ?_; rintro e w1 ⟨rfl, X⟩; go_wp2_with fail
     refine (HD.out _).mono ?_; rintro e w1 ⟨rfl, rfl⟩; go_wp2_with fail
     refine (HQ.out _).mono ?_; rintro e w1 ⟨rfl, rfl⟩; go_wp2_with fail
     go_ret2
     exact ⟨by rw [HR.out, if_neg (by rintro (h | ⟨h, -⟩); omega; exact C2.out h)]; rfl, X⟩
end Go.Proofs.YtoogmimbmgdflaaGreat
