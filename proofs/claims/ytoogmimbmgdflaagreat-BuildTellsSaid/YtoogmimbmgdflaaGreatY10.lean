/- Parts of the proof: Rc6, Rd6. -/
import Derived.Test.YtoogmimbmgdflaaGreatY05
namespace Go.Proofs.YtoogmimbmgdflaaGreat
open Go.RowKit
def rpF (wh pt : List UInt8) : Int × Int :=
 if 12 < pt.length then (0, 2)
 else if 1073741823 < accR 10 0 wh * 65536 + nearI (accR 10 0 pt * 65536) (10 ^ pt.length) then (0, 2)
 else (accR 10 0 wh * 65536 + nearI (accR 10 0 pt * 65536) (10 ^ pt.length), 0)
def rrS (d : List UInt8) (below : Bool) : Int × Int × Int :=
 if posL 46 d < d.length then
  if (d.take (posL 46 d)).all isDig = false ∨ (d.drop (posL 46 d + 1)).all isDig = false ∨ d.length < 2 then (0, 0, 3)
  else if (rpF (d.take (posL 46 d)) (d.drop (posL 46 d + 1))).2 ≠ 0 then (0, 0, (rpF (d.take (posL 46 d)) (d.drop (posL 46 d + 1))).2)
  else (2, sgnI below (rpF (d.take (posL 46 d)) (d.drop (posL 46 d + 1))).1, 0)
 else if d = [] ∨ d.all isDig = false then (0, 0, 3)
 else if 2147483647 < accR 10 0 d then (0, 0, 2) else (1, sgnI below (accR 10 0 d), 0)
def rrF (l : List UInt8) : Int × Int × Int :=
 if posL 35 l < l.length then rbF (l.take (posL 35 l)) (l.drop (posL 35 l + 1))
 else if l.head? = some 43 then rrS (l.drop 1) false else if l.head? = some 45 then rrS (l.drop 1) true else rrS l false
set_option maxRecDepth 100000 in
set_option maxHeartbeats 1000000 in
theorem rpointed_any (wh pt : ByteArray) (h1 : wh.size ≤ 9223372036854775807) (h2 : pt.size ≤ 9223372036854775807) (d1 : wh.toList.all isDig = true) (d2 : pt.toList.all isDig = true) (w : World) :
 Calls Tryz.prog 123 #[.string wh, .string pt] w fun e w' => e = .returned (.tuple #[.int .i64 (rpF wh.toList pt.toList).1, .int .i64 (rpF wh.toList pt.toList).2]) ∧ Chg NoB w w' := by
 obtain ⟨R, hR⟩ : ∃ R, rpF wh.toList pt.toList = R := ⟨_, rfl⟩
 rw [hR]; have hr : R = rpF wh.toList pt.toList := hR.symm; unfold rpF at hr; rw [size_lst] at hr; clear hR
 by_cases c1 : 12 < pt.size
 · have c1' : 12 < (pt.size : Int) := by omega
   have HR := hid' (hr.trans (if_pos c1)); clear hr; go_enter Tryz.func123, Tryz.ntmps123
   go_wp2_with fail
   go_ret2
   exact ⟨by rw [HR.out]; rfl, Chg.refl _ _⟩
 have c1' : (pt.size : Int) ≤ 12 := by omega
 have hr := hr.trans (if_neg c1); have HP := hid' (fun w => radd_any pt 10 (by omega) (by omega) (all_value _ d2) h2 w); have HW := hid' (fun w => radd_any wh 10 (by omega) (by omega) (all_value _ d1) h1 w); have b1 := accR_le 10 (by omega) wh.toList (all_value _ d1) 0 (by omega) (by omega); have b2 := accR_le 10 (by omega) pt.toList (all_value _ d2) 0 (by omega) (by omega); generalize accR 10 0 wh.toList = A at *; generalize accR 10 0 pt.toList = B at *; have HT := hid' (fun w => rten_any pt.size (by omega) w); have hp := pow_18 pt.size (by omega)
 have e4 : ((10 ^ pt.size : Nat) : Int) = (10 : Int) ^ pt.size := by simp
 have hmd := fun w => muldiv_any B.toNat 65536 (10 ^ pt.size) (by omega) (by omega) (by have := hp.2; omega) (Nat.pow_pos (by decide)) (by omega) w
 have e1 : ((B.toNat * 65536 : Nat) : Int) = B * 65536 := by omega
 have e2 : ((B.toNat : Nat) : Int) = B := by omega
 have e3 : ((10 ^ pt.size : Nat) : Int) = (10 : Int) ^ pt.size := by simp
 rw [e1, e2, e3] at hmd; have HM := hid' hmd; have hn := nearI_le (B * 65536) (10 ^ pt.size) (by omega) hp.1; generalize nearI (B * 65536) (10 ^ pt.size) = M at *; generalize (10 : Int) ^ pt.size = T at *; clear hmd e1 e2 e3 e4 hp d1 d2
 by_cases c2 : 1073741823 < A * 65536 + M
 · have HR := hid' (hr.trans (if_pos c2)); clear hr; go_enter Tryz.func123, Tryz.ntmps123
   go_wp2_with fail
   refine (HP.out _).mono ?_; rintro e w9 ⟨rfl, rfl⟩; go_wp2_with fail
   refine (HT.out _).mono ?_; rintro e w9 ⟨rfl, rfl⟩; go_wp2_with fail
   refine (HM.out _).mono ?_; rintro e w9 ⟨rfl, X9⟩; go_wp2_with fail
   refine (HW.out _).mono ?_; rintro e w9 ⟨rfl, rfl⟩; go_wp2_with fail
   go_ret2
   exact ⟨by rw [HR.out]; rfl, X9⟩
 · have c2' : A * 65536 + M ≤ 1073741823 := by omega
   have HR := hid' (hr.trans (if_neg c2)); clear hr; go_enter Tryz.func123, Tryz.ntmps123
   go_wp2_with fail
   refine (HP.out _).mono ?_; rintro e w9 ⟨rfl, rfl⟩; go_wp2_with fail
   refine (HT.out _).mono ?_; rintro e w9 ⟨rfl, rfl⟩; go_wp2_with fail
   refine (HM.out _).mono ?_; rintro e w9 ⟨rfl, X9⟩; go_wp2_with fail
   refine (HW.out _).mono ?_; rintro e w9 ⟨rfl, rfl⟩; go_wp2_with fail
   go_ret2
   exact ⟨by rw [HR.out]; rfl, X9⟩
theorem rpF_le (wh pt : List UInt8) (d1 : wh.all isDig = true) (d2 : pt.all isDig = true) : 0 ≤ (rpF wh pt).1 ∧ (rpF wh pt).1 ≤ 1073741823 := by
 unfold rpF
 by_cases c1 : 12 < pt.length
 · rw [if_pos c1]; decide
 rw [if_neg c1]
 by_cases c2 : 1073741823 < accR 10 0 wh * 65536 + nearI (accR 10 0 pt * 65536) (10 ^ pt.length)
 · rw [if_pos c2]; decide
 rw [if_neg c2]; have b1 := accR_le 10 (by omega) wh (all_value _ d1) 0 (by omega) (by omega); have b2 := accR_le 10 (by omega) pt (all_value _ d2) 0 (by omega) (by omega); have hn := nearI_le (accR 10 0 pt * 65536) (10 ^ pt.length) (by omega) (pow_18 pt.length (by omega)).1; simp only; omega
set_option maxRecDepth 100000 in
set_option maxHeartbeats 4000000 in
theorem rread_any (s : ByteArray) (hs : s.size ≤ 9223372036854775807) (w : World) :
 Calls Tryz.prog 80 #[.string s] w fun e w' => e = .returned (readV (rrF s.toList)) ∧ Chg NoB w w' := by
 have HF0 := fun w => rfind_any s 35 hs w; have e35 : (((35 : UInt8).toNat : Nat) : Int) = 35 := rfl; have e46 : (((46 : UInt8).toNat : Nat) : Int) = 46 := rfl; rw [e35] at HF0; unfold findI at HF0
 obtain ⟨R, hR⟩ : ∃ R, rrF s.toList = R := ⟨_, rfl⟩
 rw [hR]; have hr : R = rrF s.toList := hR.symm; unfold rrF at hr; clear hR
 by_cases c0 : posL 35 s.toList < s.toList.length
 · rw [if_pos c0] at HF0 hr; have HB0 := fun w => rbased_any s (posL 35 s.toList) hs (by rw [size_lst] at c0; exact c0) w; rw [← hr] at HB0
   have p0 : (0 : Int) ≤ (posL 35 s.toList : Nat) := by omega
   generalize posL 35 s.toList = at35 at *; have HF := hid' HF0; have HB := hid' HB0; clear HF0 HB0 hr c0; go_enter Tryz.func80, Tryz.ntmps80
   go_wp2_with fail
   refine (HF.out _).mono ?_; rintro e w9 ⟨rfl, rfl⟩; go_wp2_with fail
   refine (HB.out _).mono ?_; rintro e w9 ⟨rfl, X9⟩; go_wp2_with fail
   go_ret3; exact ⟨rfl, X9⟩
 rw [if_neg c0] at HF0 hr; have HF := hid' HF0; clear HF0 c0
 by_cases s0 : s.size = 0
 · have he : s.toList = [] := List.eq_nil_of_length_eq_zero (by rw [size_lst]; exact s0)
   have hx : s.toList.isEmpty = true := by rw [he]; rfl
   have hh : s.toList.head? = none := by rw [he]; rfl
   rw [hh, he] at hr; have HR := hid' (show R = (0, 0, 3) from hr); have HD0 := fun w => rfind_any s 46 hs w; rw [e46, show findI 46 s.toList = -1 by rw [he]; rfl] at HD0; have HD := hid' HD0; clear hh he hr HD0 s0; go_enter Tryz.func80, Tryz.ntmps80
   go_wp2_with fail
   refine (HF.out _).mono ?_; rintro e w9 ⟨rfl, rfl⟩; go_wp2_with fail
   refine (HD.out _).mono ?_; rintro e w9 ⟨rfl, rfl⟩; go_wp2_with fail
   go_ret3; exact ⟨by rw [HR.out]; rfl, Chg.refl _ _⟩
 have s1 : 0 < s.size := by omega
 have s1' : 0 < (s.size : Int) := by omega
 have hh : s.toList.head? = some s[0] := by rw [List.head?_eq_getElem?]; exact lst_get s 0 s1
 have hx : s.toList.isEmpty = false := by
  cases hl : s.toList with
  | nil => rw [hl] at hh; simp at hh
  | cons => rfl
 rw [hh] at hr
 have hb48 : ∀ n : UInt8, ¬ s[0] = n → ((s[0].toNat : Int) == (n.toNat : Int)) = false := fun n h => by
  simp only [beq_eq_false_iff_ne, ne_eq]; intro e; exact h (UInt8.toNat_inj.1 (by omega))
 by_cases g43 : s[0] = 43
 · have e43 : ((s[0].toNat : Int) == 43) = true := by rw [g43]; rfl
   have e45 : ((s[0].toNat : Int) == 45) = false := by rw [g43]; rfl
   obtain ⟨y, hyx⟩ : ∃ y, s.extract 1 s.size = y := ⟨_, rfl⟩
   have hr := hr.trans (if_pos (by rw [g43])); rw [← extE_lst s 1, hyx] at hr
   have hy : y.size ≤ 9223372036854775807 := by rw [← hyx, ByteArray.size_extract]; omega
   clear hh g43 hb48; unfold rrS at hr; have HD0 := fun w => rfind_any y 46 hy w; rw [e46] at HD0; unfold findI at HD0; rw [size_lst] at HD0 hr
   by_cases d0 : posL 46 y.toList < y.size
   · rw [if_pos d0] at HD0 hr; have hpt : ∀ k : Nat, (k : Int).toNat = k := fun k => Int.toNat_natCast k
     obtain ⟨q, hq⟩ : ∃ q, posL 46 y.toList = q := ⟨_, rfl⟩
     rw [hq] at HD0 hr d0
     have q0 : (0 : Int) ≤ q := by omega
     have q1 : (q : Int) < y.size := by omega
     have q2 : (q : Int) + 1 ≤ y.size := by omega
     obtain ⟨y1, hy1⟩ : ∃ x0, y.extract 0 q = x0 := ⟨_, rfl⟩
     obtain ⟨y2, hy2⟩ : ∃ x0, y.extract (q + 1) y.size = x0 := ⟨_, rfl⟩
     have l1 : y1.toList = y.toList.take q := by rw [← hy1, ext0_lst]
     have l2 : y2.toList = y.toList.drop (q + 1) := by rw [← hy2, extE_lst]
     have z1 : y1.size ≤ 9223372036854775807 := by rw [← hy1, ByteArray.size_extract]; omega
     have z2 : y2.size ≤ 9223372036854775807 := by rw [← hy2, ByteArray.size_extract]; omega
     rw [← l1, ← l2] at hr; have HD := hid' HD0; have HA0 := fun w => rall_any y1 z1 w; have HB0 := fun w => rall_any y2 z2 w
     obtain ⟨v1, hv1⟩ : ∃ v, y1.toList.all isDig = v := ⟨_, rfl⟩
     obtain ⟨v2, hv2⟩ : ∃ v, y2.toList.all isDig = v := ⟨_, rfl⟩
     rw [hv1] at HA0 hr; rw [hv2] at HB0 hr; have HA := hid' HA0; have HB := hid' HB0; clear HD0 HA0 HB0 hpt hq l1 l2
     cases v1 with
     | false =>
      have HR := hid' (hr.trans (if_pos (.inl rfl))); clear hr hv1 hv2; go_enter Tryz.func80, Tryz.ntmps80
      go_wp2_with fail
      refine (HF.out _).mono ?_; rintro e w9 ⟨rfl, rfl⟩; go_wp2_with fail
      refine (HD.out _).mono ?_; rintro e w9 ⟨rfl, rfl⟩; go_wp2_with fail
      go_quiet (fail)
      have X := (Chg.refl NoB w).drewN nq; generalize w.drewN nq = w1 at *; go_wp2_with fail
      refine (HA.out _).mono ?_; rintro e w9 ⟨rfl, rfl⟩; go_wp2_with fail
      go_ret3; exact ⟨by rw [HR.out]; rfl, X⟩
     | true =>
     cases v2 with
     | false =>
      have HR := hid' (hr.trans (if_pos (.inr (.inl rfl)))); clear hr hv1 hv2; go_enter Tryz.func80, Tryz.ntmps80
      go_wp2_with fail
      refine (HF.out _).mono ?_; rintro e w9 ⟨rfl, rfl⟩; go_wp2_with fail
      refine (HD.out _).mono ?_; rintro e w9 ⟨rfl, rfl⟩; go_wp2_with fail
      go_quiet (fail)
      have X := (Chg.refl NoB w).drewN nq; generalize w.drewN nq = w1 at *; go_wp2_with fail
      refine (HA.out _).mono ?_; rintro e w9 ⟨rfl, rfl⟩; go_wp2_with fail
      refine (HB.out _).mono ?_; rintro e w9 ⟨rfl, rfl⟩; go_wp2_with fail
      go_ret3; exact ⟨by rw [HR.out]; rfl, X⟩
     | true =>
     by_cases d3 : y.size < 2
     · have d3' : (y.size : Int) < 2 := by omega
       have HR := hid' (hr.trans (if_pos (.inr (.inr d3)))); clear hr hv1 hv2; go_enter Tryz.func80, Tryz.ntmps80
       go_wp2_with fail
       refine (HF.out _).mono ?_; rintro e w9 ⟨rfl, rfl⟩; go_wp2_with fail
       refine (HD.out _).mono ?_; rintro e w9 ⟨rfl, rfl⟩; go_wp2_with fail
       go_quiet (fail)
       have X := (Chg.refl NoB w).drewN nq; generalize w.drewN nq = w1 at *; go_wp2_with fail
       refine (HA.out _).mono ?_; rintro e w9 ⟨rfl, rfl⟩; go_wp2_with fail
       refine (HB.out _).mono ?_; rintro e w9 ⟨rfl, rfl⟩; go_wp2_with fail
       go_ret3; exact ⟨by rw [HR.out]; rfl, X⟩
     have d3' : 2 ≤ (y.size : Int) := by omega
     have hr := hr.trans (if_neg (fun h => by rcases h with h | h | h; exact absurd h (by decide); exact absurd h (by decide); exact d3 h)); have HP0 := fun w => rpointed_any y1 y2 z1 z2 hv1 hv2 w; have hb := rpF_le y1.toList y2.toList hv1 hv2; generalize rpF y1.toList y2.toList = P at *; obtain ⟨pv, pe⟩ := P; simp only at hb HP0 hr; have HP := hid' HP0; clear HP0 hv1 hv2
     by_cases d4 : pe = 0
     · subst d4; have HR := hid' (hr.trans (if_neg (fun h => h rfl))); clear hr; go_enter Tryz.func80, Tryz.ntmps80
       go_wp2_with fail
       refine (HF.out _).mono ?_; rintro e w9 ⟨rfl, rfl⟩; go_wp2_with fail
       refine (HD.out _).mono ?_; rintro e w9 ⟨rfl, rfl⟩; go_wp2_with fail
       go_quiet (fail)
       have X := (Chg.refl NoB w).drewN nq; generalize w.drewN nq = w1 at *; go_wp2_with fail
       refine (HA.out _).mono ?_; rintro e w9 ⟨rfl, rfl⟩; go_wp2_with fail
       refine (HB.out _).mono ?_; rintro e w9 ⟨rfl, rfl⟩; go_wp2_with fail
       refine (HP.out _).mono ?_; rintro e w9 ⟨rfl, X9⟩; go_wp2_with fail
       go_ret3; exact ⟨by rw [HR.out]; rfl, X.trans X9⟩
     · have d4' : (pe != 0) = true := by simpa using d4
       have HR := hid' (hr.trans (if_pos d4)); clear hr d4; go_enter Tryz.func80, Tryz.ntmps80
       go_wp2_with fail
       refine (HF.out _).mono ?_; rintro e w9 ⟨rfl, rfl⟩; go_wp2_with fail
       refine (HD.out _).mono ?_; rintro e w9 ⟨rfl, rfl⟩; go_wp2_with fail
       go_quiet (fail)
       have X := (Chg.refl NoB w).drewN nq; generalize w.drewN nq = w1 at *; go_wp2_with fail
       refine (HA.out _).mono ?_; rintro e w9 ⟨rfl, rfl⟩; go_wp2_with fail
       refine (HB.out _).mono ?_; rintro e w9 ⟨rfl, rfl⟩; go_wp2_with fail
       refine (HP.out _).mono ?_; rintro e w9 ⟨rfl, X9⟩; go_wp2_with fail
       go_ret3; exact ⟨by rw [HR.out]; rfl, X.trans X9⟩
   · rw [if_neg d0] at HD0 hr; have HD := hid' HD0; clear HD0 d0
     by_cases d1 : y.toList = []
     · have e1 : y.toList.isEmpty = true := by rw [d1]; rfl
       have HR := hid' (hr.trans (if_pos (.inl d1))); clear hr d1; go_enter Tryz.func80, Tryz.ntmps80
       go_wp2_with fail
       refine (HF.out _).mono ?_; rintro e w9 ⟨rfl, rfl⟩; go_wp2_with fail
       refine (HD.out _).mono ?_; rintro e w9 ⟨rfl, rfl⟩; go_wp2_with fail
       go_ret3; exact ⟨by rw [HR.out]; rfl, Chg.refl _ _⟩
     have e1 : y.toList.isEmpty = false := by cases h : y.toList with
      | nil => exact absurd h d1
      | cons => rfl
     have HA0 := fun w => rall_any y hy w
     obtain ⟨v1, hv1⟩ : ∃ v, y.toList.all isDig = v := ⟨_, rfl⟩
     rw [hv1] at HA0 hr; have HA := hid' HA0; clear HA0
     cases v1 with
     | false =>
      have HR := hid' (hr.trans (if_pos (.inr rfl))); clear hr d1 hv1; go_enter Tryz.func80, Tryz.ntmps80
      go_wp2_with fail
      refine (HF.out _).mono ?_; rintro e w9 ⟨rfl, rfl⟩; go_wp2_with fail
      refine (HD.out _).mono ?_; rintro e w9 ⟨rfl, rfl⟩; go_wp2_with fail
      refine (HA.out _).mono ?_; rintro e w9 ⟨rfl, rfl⟩; go_wp2_with fail
      go_ret3; exact ⟨by rw [HR.out]; rfl, Chg.refl _ _⟩
     | true =>
     have hr := hr.trans (if_neg (fun h => by rcases h with h | h; exact d1 h; exact absurd h (by decide))); have HV0 := fun w => radd_any y 10 (by omega) (by omega) (all_value _ hv1) hy w; have hV := accR_le 10 (by omega) y.toList (all_value _ hv1) 0 (by omega) (by omega); generalize accR 10 0 y.toList = V at *; have HV := hid' HV0; clear HV0 hv1 d1
     by_cases d2 : 2147483647 < V
     · have HR := hid' (hr.trans (if_pos d2)); clear hr; go_enter Tryz.func80, Tryz.ntmps80
       go_wp2_with fail
       refine (HF.out _).mono ?_; rintro e w9 ⟨rfl, rfl⟩; go_wp2_with fail
       refine (HD.out _).mono ?_; rintro e w9 ⟨rfl, rfl⟩; go_wp2_with fail
       refine (HA.out _).mono ?_; rintro e w9 ⟨rfl, rfl⟩; go_wp2_with fail
       refine (HV.out _).mono ?_; rintro e w9 ⟨rfl, rfl⟩; go_wp2_with fail
       go_ret3; exact ⟨by rw [HR.out]; rfl, Chg.refl _ _⟩
     · have d2' : V ≤ 2147483647 := by omega
       have HR := hid' (hr.trans (if_neg d2)); clear hr; go_enter Tryz.func80, Tryz.ntmps80
       go_wp2_with fail
       refine (HF.out _).mono ?_; rintro e w9 ⟨rfl, rfl⟩; go_wp2_with fail
       refine (HD.out _).mono ?_; rintro e w9 ⟨rfl, rfl⟩; go_wp2_with fail
       refine (HA.out _).mono ?_; rintro e w9 ⟨rfl, rfl⟩; go_wp2_with fail
       refine (HV.out _).mono ?_; rintro e w9 ⟨rfl, rfl⟩; go_wp2_with fail
       go_ret3; exact ⟨by rw [HR.out]; rfl, Chg.refl _ _⟩
 have hr := hr.trans (if_neg (fun h => g43 (Option.some.inj h))); have e43 : ((s[0].toNat : Int) == 43) = false := hb48 43 g43
 by_cases g45 : s[0] = 45
 · have e45 : ((s[0].toNat : Int) == 45) = true := by rw [g45]; rfl
   obtain ⟨y, hyx⟩ : ∃ y, s.extract 1 s.size = y := ⟨_, rfl⟩
   have hr := hr.trans (if_pos (by rw [g45])); rw [← extE_lst s 1, hyx] at hr
   have hy : y.size ≤ 9223372036854775807 := by rw [← hyx, ByteArray.size_extract]; omega
   clear hh g43 g45 hb48; unfold rrS at hr; have HD0 := fun w => rfind_any y 46 hy w; rw [e46] at HD0; unfold findI at HD0; rw [size_lst] at HD0 hr
   by_cases d0 : posL 46 y.toList < y.size
   · rw [if_pos d0] at HD0 hr; have hpt : ∀ k : Nat, (k : Int).toNat = k := fun k => Int.toNat_natCast k
     obtain ⟨q, hq⟩ : ∃ q, posL 46 y.toList = q := ⟨_, rfl⟩
     rw [hq] at HD0 hr d0
     have q0 : (0 : Int) ≤ q := by omega
     have q1 : (q : Int) < y.size := by omega
     have q2 : (q : Int) + 1 ≤ y.size := by omega
     obtain ⟨y1, hy1⟩ : ∃ x0, y.extract 0 q = x0 := ⟨_, rfl⟩
     obtain ⟨y2, hy2⟩ : ∃ x0, y.extract (q + 1) y.size = x0 := ⟨_, rfl⟩
     have l1 : y1.toList = y.toList.take q := by rw [← hy1, ext0_lst]
     have l2 : y2.toList = y.toList.drop (q + 1) := by rw [← hy2, extE_lst]
     have z1 : y1.size ≤ 9223372036854775807 := by rw [← hy1, ByteArray.size_extract]; omega
     have z2 : y2.size ≤ 9223372036854775807 := by rw [← hy2, ByteArray.size_extract]; omega
     rw [← l1, ← l2] at hr; have HD := hid' HD0; have HA0 := fun w => rall_any y1 z1 w; have HB0 := fun w => rall_any y2 z2 w
     obtain ⟨v1, hv1⟩ : ∃ v, y1.toList.all isDig = v := ⟨_, rfl⟩
     obtain ⟨v2, hv2⟩ : ∃ v, y2.toList.all isDig = v := ⟨_, rfl⟩
     rw [hv1] at HA0 hr; rw [hv2] at HB0 hr; have HA := hid' HA0; have HB := hid' HB0; clear HD0 HA0 HB0 hpt hq l1 l2
     cases v1 with
     | false =>
      have HR := hid' (hr.trans (if_pos (.inl rfl))); clear hr hv1 hv2; go_enter Tryz.func80, Tryz.ntmps80
      go_wp2_with fail
      refine (HF.out _).mono ?_; rintro e w9 ⟨rfl, rfl⟩; go_wp2_with fail
      refine (HD.out _).mono ?_; rintro e w9 ⟨rfl, rfl⟩; go_wp2_with fail
      go_quiet (fail)
      have X := (Chg.refl NoB w).drewN nq; generalize w.drewN nq = w1 at *; go_wp2_with fail
      refine (HA.out _).mono ?_; rintro e w9 ⟨rfl, rfl⟩; go_wp2_with fail
      go_ret3; exact ⟨by rw [HR.out]; rfl, X⟩
     | true =>
     cases v2 with
     | false =>
      have HR := hid' (hr.trans (if_pos (.inr (.inl rfl)))); clear hr hv1 hv2; go_enter Tryz.func80, Tryz.ntmps80
      go_wp2_with fail
      refine (HF.out _).mono ?_; rintro e w9 ⟨rfl, rfl⟩; go_wp2_with fail
      refine (HD.out _).mono ?_; rintro e w9 ⟨rfl, rfl⟩; go_wp2_with fail
      go_quiet (fail)
      have X := (Chg.refl NoB w).drewN nq; generalize w.drewN nq = w1 at *; go_wp2_with fail
      refine (HA.out _).mono ?_; rintro e w9 ⟨rfl, rfl⟩; go_wp2_with fail
      refine (HB.out _).mono ?_; rintro e w9 ⟨rfl, rfl⟩; go_wp2_with fail
      go_ret3; exact ⟨by rw [HR.out]; rfl, X⟩
     | true =>
     by_cases d3 : y.size < 2
     · have d3' : (y.size : Int) < 2 := by omega
       have HR := hid' (hr.trans (if_pos (.inr (.inr d3)))); clear hr hv1 hv2; go_enter Tryz.func80, Tryz.ntmps80
       go_wp2_with fail
       refine (HF.out _).mono ?_; rintro e w9 ⟨rfl, rfl⟩; go_wp2_with fail
       refine (HD.out _).mono ?_; rintro e w9 ⟨rfl, rfl⟩; go_wp2_with fail
       go_quiet (fail)
       have X := (Chg.refl NoB w).drewN nq; generalize w.drewN nq = w1 at *; go_wp2_with fail
       refine (HA.out _).mono ?_; rintro e w9 ⟨rfl, rfl⟩; go_wp2_with fail
       refine (HB.out _).mono ?_; rintro e w9 ⟨rfl, rfl⟩; go_wp2_with fail
       go_ret3; exact ⟨by rw [HR.out]; rfl, X⟩
     have d3' : 2 ≤ (y.size : Int) := by omega
     have hr := hr.trans (if_neg (fun h => by rcases h with h | h | h; exact absurd h (by decide); exact absurd h (by decide); exact d3 h)); have HP0 := fun w => rpointed_any y1 y2 z1 z2 hv1 hv2 w; have hb := rpF_le y1.toList y2.toList hv1 hv2; generalize rpF y1.toList y2.toList = P at *; obtain ⟨pv, pe⟩ := P; simp only at hb HP0 hr; have HP := hid' HP0; clear HP0 hv1 hv2
     by_cases d4 : pe = 0
     · subst d4; have HR := hid' (hr.trans (if_neg (fun h => h rfl))); clear hr; go_enter Tryz.func80, Tryz.ntmps80
       go_wp2_with fail
       refine (HF.out _).mono ?_; rintro e w9 ⟨rfl, rfl⟩; go_wp2_with fail
       refine (HD.out _).mono ?_; rintro e w9 ⟨rfl, rfl⟩; go_wp2_with fail
       go_quiet (fail)
       have X := (Chg.refl NoB w).drewN nq; generalize w.drewN nq = w1 at *; go_wp2_with fail
       refine (HA.out _).mono ?_; rintro e w9 ⟨rfl, rfl⟩; go_wp2_with fail
       refine (HB.out _).mono ?_; rintro e w9 ⟨rfl, rfl⟩; go_wp2_with fail
       refine (HP.out _).mono ?_; rintro e w9 ⟨rfl, X9⟩; go_wp2_with fail
       go_ret3; exact ⟨by rw [HR.out]; rfl, X.trans X9⟩
     · have d4' : (pe != 0) = true := by simpa using d4
       have HR := hid' (hr.trans (if_pos d4)); clear hr d4; go_enter Tryz.func80, Tryz.ntmps80
       go_wp2_with fail
       refine (HF.out _).mono ?_; rintro e w9 ⟨rfl, rfl⟩; go_wp2_with fail
       refine (HD.out _).mono ?_; rintro e w9 ⟨rfl, rfl⟩; go_wp2_with fail
       go_quiet (fail)
       have X := (Chg.refl NoB w).drewN nq; generalize w.drewN nq = w1 at *; go_wp2_with fail
       refine (HA.out _).mono ?_; rintro e w9 ⟨rfl, rfl⟩; go_wp2_with fail
       refine (HB.out _).mono ?_; rintro e w9 ⟨rfl, rfl⟩; go_wp2_with fail
       refine (HP.out _).mono ?_; rintro e w9 ⟨rfl, X9⟩; go_wp2_with fail
       go_ret3; exact ⟨by rw [HR.out]; rfl, X.trans X9⟩
   · rw [if_neg d0] at HD0 hr; have HD := hid' HD0; clear HD0 d0
     by_cases d1 : y.toList = []
     · have e1 : y.toList.isEmpty = true := by rw [d1]; rfl
       have HR := hid' (hr.trans (if_pos (.inl d1))); clear hr d1; go_enter Tryz.func80, Tryz.ntmps80
       go_wp2_with fail
       refine (HF.out _).mono ?_; rintro e w9 ⟨rfl, rfl⟩; go_wp2_with fail
       refine (HD.out _).mono ?_; rintro e w9 ⟨rfl, rfl⟩; go_wp2_with fail
       go_ret3; exact ⟨by rw [HR.out]; rfl, Chg.refl _ _⟩
     have e1 : y.toList.isEmpty = false := by cases h : y.toList with
      | nil => exact absurd h d1
      | cons => rfl
     have HA0 := fun w => rall_any y hy w
     obtain ⟨v1, hv1⟩ : ∃ v, y.toList.all isDig = v := ⟨_, rfl⟩
     rw [hv1] at HA0 hr; have HA := hid' HA0; clear HA0
     cases v1 with
     | false =>
      have HR := hid' (hr.trans (if_pos (.inr rfl))); clear hr d1 hv1; go_enter Tryz.func80, Tryz.ntmps80
      go_wp2_with fail
      refine (HF.out _).mono ?_; rintro e w9 ⟨rfl, rfl⟩; go_wp2_with fail
      refine (HD.out _).mono ?_; rintro e w9 ⟨rfl, rfl⟩; go_wp2_with fail
      refine (HA.out _).mono ?_; rintro e w9 ⟨rfl, rfl⟩; go_wp2_with fail
      go_ret3; exact ⟨by rw [HR.out]; rfl, Chg.refl _ _⟩
     | true =>
     have hr := hr.trans (if_neg (fun h => by rcases h with h | h; exact d1 h; exact absurd h (by decide))); have HV0 := fun w => radd_any y 10 (by omega) (by omega) (all_value _ hv1) hy w; have hV := accR_le 10 (by omega) y.toList (all_value _ hv1) 0 (by omega) (by omega); generalize accR 10 0 y.toList = V at *; have HV := hid' HV0; clear HV0 hv1 d1
     by_cases d2 : 2147483647 < V
     · have HR := hid' (hr.trans (if_pos d2)); clear hr; go_enter Tryz.func80, Tryz.ntmps80
       go_wp2_with fail
       refine (HF.out _).mono ?_; rintro e w9 ⟨rfl, rfl⟩; go_wp2_with fail
       refine (HD.out _).mono ?_; rintro e w9 ⟨rfl, rfl⟩; go_wp2_with fail
       refine (HA.out _).mono ?_; rintro e w9 ⟨rfl, rfl⟩; go_wp2_with fail
       refine (HV.out _).mono ?_; rintro e w9 ⟨rfl, rfl⟩; go_wp2_with fail
       go_ret3; exact ⟨by rw [HR.out]; rfl, Chg.refl _ _⟩
     · have d2' : V ≤ 2147483647 := by omega
       have HR := hid' (hr.trans (if_neg d2)); clear hr; go_enter Tryz.func80, Tryz.ntmps80
       go_wp2_with fail
       refine (HF.out _).mono ?_; rintro e w9 ⟨rfl, rfl⟩; go_wp2_with fail
       refine (HD.out _).mono ?_; rintro e w9 ⟨rfl, rfl⟩; go_wp2_with fail
       refine (HA.out _).mono ?_; rintro e w9 ⟨rfl, rfl⟩; go_wp2_with fail
       refine (HV.out _).mono ?_; rintro e w9 ⟨rfl, rfl⟩; go_wp2_with fail
       go_ret3; exact ⟨by rw [HR.out]; rfl, Chg.refl _ _⟩
 have hr := hr.trans (if_neg (fun h => g45 (Option.some.inj h))); have e45 : ((s[0].toNat : Int) == 45) = false := hb48 45 g45; have hy : s.size ≤ 9223372036854775807 := hs; clear hh g43 g45 hb48; unfold rrS at hr; have HD0 := fun w => rfind_any s 46 hy w; rw [e46] at HD0; unfold findI at HD0; rw [size_lst] at HD0 hr
 by_cases d0 : posL 46 s.toList < s.size
 · rw [if_pos d0] at HD0 hr; have hpt : ∀ k : Nat, (k : Int).toNat = k := fun k => Int.toNat_natCast k
   obtain ⟨q, hq⟩ : ∃ q, posL 46 s.toList = q := ⟨_, rfl⟩
   rw [hq] at HD0 hr d0
   have q0 : (0 : Int) ≤ q := by omega
   have q1 : (q : Int) < s.size := by omega
   have q2 : (q : Int) + 1 ≤ s.size := by omega
   obtain ⟨y1, hy1⟩ : ∃ x0, s.extract 0 q = x0 := ⟨_, rfl⟩
   obtain ⟨y2, hy2⟩ : ∃ x0, s.extract (q + 1) s.size = x0 := ⟨_, rfl⟩
   have l1 : y1.toList = s.toList.take q := by rw [← hy1, ext0_lst]
   have l2 : y2.toList = s.toList.drop (q + 1) := by rw [← hy2, extE_lst]
   have z1 : y1.size ≤ 9223372036854775807 := by rw [← hy1, ByteArray.size_extract]; omega
   have z2 : y2.size ≤ 9223372036854775807 := by rw [← hy2, ByteArray.size_extract]; omega
   rw [← l1, ← l2] at hr; have HD := hid' HD0; have HA0 := fun w => rall_any y1 z1 w; have HB0 := fun w => rall_any y2 z2 w
   obtain ⟨v1, hv1⟩ : ∃ v, y1.toList.all isDig = v := ⟨_, rfl⟩
   obtain ⟨v2, hv2⟩ : ∃ v, y2.toList.all isDig = v := ⟨_, rfl⟩
   rw [hv1] at HA0 hr; rw [hv2] at HB0 hr; have HA := hid' HA0; have HB := hid' HB0; clear HD0 HA0 HB0 hpt hq l1 l2
   cases v1 with
   | false =>
    have HR := hid' (hr.trans (if_pos (.inl rfl))); clear hr hv1 hv2; go_enter Tryz.func80, Tryz.ntmps80
    go_wp2_with fail
    refine (HF.out _).mono ?_; rintro e w9 ⟨rfl, rfl⟩; go_wp2_with fail
    refine (HD.out _).mono ?_; rintro e w9 ⟨rfl, rfl⟩; go_wp2_with fail
    go_quiet (fail)
    have X := (Chg.refl NoB w).drewN nq; generalize w.drewN nq = w1 at *; go_wp2_with fail
    refine (HA.out _).mono ?_; rintro e w9 ⟨rfl, rfl⟩; go_wp2_with fail
    go_ret3; exact ⟨by rw [HR.out]; rfl, X⟩
   | true =>
   cases v2 with
   | false =>
    have HR := hid' (hr.trans (if_pos (.inr (.inl rfl)))); clear hr hv1 hv2; go_enter Tryz.func80, Tryz.ntmps80
    go_wp2_with fail
    refine (HF.out _).mono ?_; rintro e w9 ⟨rfl, rfl⟩; go_wp2_with fail
    refine (HD.out _).mono ?_; rintro e w9 ⟨rfl, rfl⟩; go_wp2_with fail
    go_quiet (fail)
    have X := (Chg.refl NoB w).drewN nq; generalize w.drewN nq = w1 at *; go_wp2_with fail
    refine (HA.out _).mono ?_; rintro e w9 ⟨rfl, rfl⟩; go_wp2_with fail
    refine (HB.out _).mono ?_; rintro e w9 ⟨rfl, rfl⟩; go_wp2_with fail
    go_ret3; exact ⟨by rw [HR.out]; rfl, X⟩
   | true =>
   by_cases d3 : s.size < 2
   · have d3' : (s.size : Int) < 2 := by omega
     have HR := hid' (hr.trans (if_pos (.inr (.inr d3)))); clear hr hv1 hv2; go_enter Tryz.func80, Tryz.ntmps80
     go_wp2_with fail
     refine (HF.out _).mono ?_; rintro e w9 ⟨rfl, rfl⟩; go_wp2_with fail
     refine (HD.out _).mono ?_; rintro e w9 ⟨rfl, rfl⟩; go_wp2_with fail
     go_quiet (fail)
     have X := (Chg.refl NoB w).drewN nq; generalize w.drewN nq = w1 at *; go_wp2_with fail
     refine (HA.out _).mono ?_; rintro e w9 ⟨rfl, rfl⟩; go_wp2_with fail
     refine (HB.out _).mono ?_; rintro e w9 ⟨rfl, rfl⟩; go_wp2_with fail
     go_ret3; exact ⟨by rw [HR.out]; rfl, X⟩
   have d3' : 2 ≤ (s.size : Int) := by omega
   have hr := hr.trans (if_neg (fun h => by rcases h with h | h | h; exact absurd h (by decide); exact absurd h (by decide); exact d3 h)); have HP0 := fun w => rpointed_any y1 y2 z1 z2 hv1 hv2 w; have hb := rpF_le y1.toList y2.toList hv1 hv2; generalize rpF y1.toList y2.toList = P at *; obtain ⟨pv, pe⟩ := P; simp only at hb HP0 hr; have HP := hid' HP0; clear HP0 hv1 hv2
   by_cases d4 : pe = 0
   · subst d4; have HR := hid' (hr.trans (if_neg (fun h => h rfl))); clear hr; go_enter Tryz.func80, Tryz.ntmps80
     go_wp2_with fail
     refine (HF.out _).mono ?_; rintro e w9 ⟨rfl, rfl⟩; go_wp2_with fail
     refine (HD.out _).mono ?_; rintro e w9 ⟨rfl, rfl⟩; go_wp2_with fail
     go_quiet (fail)
     have X := (Chg.refl NoB w).drewN nq; generalize w.drewN nq = w1 at *; go_wp2_with fail
     refine (HA.out _).mono ?_; rintro e w9 ⟨rfl, rfl⟩; go_wp2_with fail
     refine (HB.out _).mono ?_; rintro e w9 ⟨rfl, rfl⟩; go_wp2_with fail
     refine (HP.out _).mono ?_; rintro e w9 ⟨rfl, X9⟩; go_wp2_with fail
     go_ret3; exact ⟨by rw [HR.out]; rfl, X.trans X9⟩
   · have d4' : (pe != 0) = true := by simpa using d4
     have HR := hid' (hr.trans (if_pos d4)); clear hr d4; go_enter Tryz.func80, Tryz.ntmps80
     go_wp2_with fail
     refine (HF.out _).mono ?_; rintro e w9 ⟨rfl, rfl⟩; go_wp2_with fail
     refine (HD.out _).mono ?_; rintro e w9 ⟨rfl, rfl⟩; go_wp2_with fail
     go_quiet (fail)
     have X := (Chg.refl NoB w).drewN nq; generalize w.drewN nq = w1 at *; go_wp2_with fail
     refine (HA.out _).mono ?_; rintro e w9 ⟨rfl, rfl⟩; go_wp2_with fail
     refine (HB.out _).mono ?_; rintro e w9 ⟨rfl, rfl⟩; go_wp2_with fail
     refine (HP.out _).mono ?_; rintro e w9 ⟨rfl, X9⟩; go_wp2_with fail
     go_ret3; exact ⟨by rw [HR.out]; rfl, X.trans X9⟩
 · rw [if_neg d0] at HD0 hr; have HD := hid' HD0; clear HD0 d0
   by_cases d1 : s.toList = []
   · rw [d1] at hx; exact absurd hx (by decide)
   have e1 : s.toList.isEmpty = false := by cases h : s.toList with
    | nil => exact absurd h d1
    | cons => rfl
   have HA0 := fun w => rall_any s hy w
   obtain ⟨v1, hv1⟩ : ∃ v, s.toList.all isDig = v := ⟨_, rfl⟩
   rw [hv1] at HA0 hr; have HA := hid' HA0; clear HA0
   cases v1 with
   | false =>
    have HR := hid' (hr.trans (if_pos (.inr rfl))); clear hr d1 hv1; go_enter Tryz.func80, Tryz.ntmps80
    go_wp2_with fail
    refine (HF.out _).mono ?_; rintro e w9 ⟨rfl, rfl⟩; go_wp2_with fail
    refine (HD.out _).mono ?_; rintro e w9 ⟨rfl, rfl⟩; go_wp2_with fail
    refine (HA.out _).mono ?_; rintro e w9 ⟨rfl, rfl⟩; go_wp2_with fail
    go_ret3; exact ⟨by rw [HR.out]; rfl, Chg.refl _ _⟩
   | true =>
   have hr := hr.trans (if_neg (fun h => by rcases h with h | h; exact d1 h; exact absurd h (by decide))); have HV0 := fun w => radd_any s 10 (by omega) (by omega) (all_value _ hv1) hy w; have hV := accR_le 10 (by omega) s.toList (all_value _ hv1) 0 (by omega) (by omega); generalize accR 10 0 s.toList = V at *; have HV := hid' HV0; clear HV0 hv1 d1
   by_cases d2 : 2147483647 < V
   · have HR := hid' (hr.trans (if_pos d2)); clear hr; go_enter Tryz.func80, Tryz.ntmps80
     go_wp2_with fail
     refine (HF.out _).mono ?_; rintro e w9 ⟨rfl, rfl⟩; go_wp2_with fail
     refine (HD.out _).mono ?_; rintro e w9 ⟨rfl, rfl⟩; go_wp2_with fail
     refine (HA.out _).mono ?_; rintro e w9 ⟨rfl, rfl⟩; go_wp2_with fail
     refine (HV.out _).mono ?_; rintro e w9 ⟨rfl, rfl⟩; go_wp2_with fail
     go_ret3; exact ⟨by rw [HR.out]; rfl, Chg.refl _ _⟩
   · have d2' : V ≤ 2147483647 := by omega
     have HR := hid' (hr.trans (if_neg d2)); clear hr; go_enter Tryz.func80, Tryz.ntmps80
     go_wp2_with fail
     refine (HF.out _).mono ?_; rintro e w9 ⟨rfl, rfl⟩; go_wp2_with fail
     refine (HD.out _).mono ?_; rintro e w9 ⟨rfl, rfl⟩; go_wp2_with fail
     refine (HA.out _).mono ?_; rintro e w9 ⟨rfl, rfl⟩; go_wp2_with fail
     refine (HV.out _).mono ?_; rintro e w9 ⟨rfl, rfl⟩; go_wp2_with fail
     go_ret3; exact ⟨by rw [HR.out]; rfl, Chg.refl _ _⟩
theorem posL_split (c : UInt8) : ∀ l : List UInt8, posL c l < l.length → l = l.take (posL c l) ++ c :: l.drop (posL c l + 1) ∧ c ∉ l.take (posL c l) ∧ l[posL c l]? = some c
 | [], h => by simp [posL] at h
 | x :: l, h => by
  rw [posL_cons] at h ⊢
  by_cases e : x = c
  · subst e; simp
  · rw [if_neg e] at h ⊢
    have h' : posL c l < l.length := by simpa using h
    obtain ⟨h1, h2, h3⟩ := posL_split c l h'; refine ⟨?_, ?_, by simpa using h3⟩
    · conv => lhs; rw [h1]
      simp
    · simp only [List.take_succ_cons, List.mem_cons, not_or]; exact ⟨fun h => e h.symm, h2⟩
theorem posL_none (c : UInt8) : ∀ l : List UInt8, ¬ posL c l < l.length → c ∉ l
 | [], _ => by simp
 | x :: l, h => by
  rw [posL_cons] at h
  by_cases e : x = c
  · rw [if_pos e] at h; simp at h
  · rw [if_neg e] at h
    have h' : ¬ posL c l < l.length := by simpa using h
    simp only [List.mem_cons, not_or]; exact ⟨fun h => e h.symm, posL_none c l h'⟩
theorem dig_cat (c : UInt8) (d : List UInt8) (hc : isDig c = false) : ∀ h : List UInt8, (h.all isDig = true → digL (h ++ c :: d) = h) ∧ (h.all isDig = false → ∃ x, x ∈ h ∧ isDig x = false ∧ (digL (h ++ c :: d)).length < h.length ∧ (h ++ c :: d)[(digL (h ++ c :: d)).length]? = some x)
 | [] => ⟨fun _ => by simp [digL, hc], fun h => by simp at h⟩
 | y :: h => by
  obtain ⟨i1, i2⟩ := dig_cat c d hc h
  cases hy : isDig y with
  | true =>
   have e : digL (y :: h ++ c :: d) = y :: digL (h ++ c :: d) := by simp [digL, hy]
   rw [e]; refine ⟨fun ha => ?_, fun ha => ?_⟩
   · rw [i1 (by simpa [hy] using ha)]
   · obtain ⟨x, h1, h0, h2, h3⟩ := i2 (by simpa [hy] using ha); exact ⟨x, by simp [h1], h0, by simp; exact h2, by simpa using h3⟩
  | false =>
   have e : digL (y :: h ++ c :: d) = [] := by simp [digL, hy]
   rw [e]; refine ⟨fun ha => ?_, fun _ => ⟨y, by simp, hy, by simp, by simp⟩⟩; simp [hy] at ha
theorem dig_all : ∀ d : List UInt8, (d.all isDig = true → digL d = d) ∧ (d.all isDig = false → ∃ x, x ∈ d ∧ isDig x = false ∧ (digL d).length < d.length ∧ d[(digL d).length]? = some x)
 | [] => ⟨fun _ => rfl, fun h => by simp at h⟩
 | y :: h => by
  obtain ⟨i1, i2⟩ := dig_all h
  cases hy : isDig y with
  | true =>
   have e : digL (y :: h) = y :: digL h := by simp [digL, hy]
   rw [e]; refine ⟨fun ha => ?_, fun ha => ?_⟩
   · rw [i1 (by simpa [hy] using ha)]
   · obtain ⟨x, h1, h0, h2, h3⟩ := i2 (by simpa [hy] using ha); exact ⟨x, by simp [h1], h0, by simp; exact h2, by simpa using h3⟩
  | false =>
   have e : digL (y :: h) = [] := by simp [digL, hy]
   rw [e]; refine ⟨fun ha => ?_, fun _ => ⟨y, by simp, hy, by simp, by simp⟩⟩; simp [hy] at ha
theorem accD_R (most : Int) (h0 : 0 ≤ most) (h1 : most ≤ 1099511627776) : ∀ (l : List UInt8) (_ : l.all isDig = true) (v x : Int), 0 ≤ x → v = (if most < x then most else x) → accD most v l = if most < accR 10 x l then most else accR 10 x l
 | [], _, v, x, _, hv => hv
 | c :: l, hl, v, x, hx, hv => by
  rw [List.all_cons, Bool.and_eq_true] at hl; obtain ⟨e, q0⟩ := dig_value c hl.1; rw [accD_cons, accR_cons, ← e]; generalize valueI (c.toNat : Int) = q at *; refine accD_R most h0 h1 l hl.2 _ _ (by split <;> omega) ?_; subst hv
  repeat' split
  all_goals omega
theorem accR_bd : ∀ (l : List UInt8) (_ : l.all isDig = true) (x : Int), 0 ≤ x → accR 10 x l + 1 ≤ (x + 1) * 10 ^ l.length
 | [], _, x, _ => by simp [accR]
 | c :: l, hl, x, hx => by
  rw [List.all_cons, Bool.and_eq_true] at hl; obtain ⟨e, q0⟩ := dig_value c hl.1
  have q9 : valueI (c.toNat : Int) ≤ 9 := by
   have := hl.1; simp only [isDig, Bool.and_eq_true, decide_eq_true_eq] at this; omega
  rw [accR_cons]; generalize valueI (c.toNat : Int) = q at *; have ih := accR_bd l hl.2 (if 1099511627776 < x * 10 + q then 1099511627776 else x * 10 + q) (by split <;> omega); refine Int.le_trans ih ?_; have hp : (0 : Int) ≤ 10 ^ l.length := Int.le_of_lt (Int.pow_pos (by decide))
  have hm : (if 1099511627776 < x * 10 + q then 1099511627776 else x * 10 + q) + 1 ≤ (x + 1) * 10 := by split <;> omega
  refine Int.le_trans (Int.mul_le_mul_of_nonneg_right hm hp) ?_; rw [List.length_cons, Int.pow_succ, Int.mul_assoc, Int.mul_comm 10 (10 ^ l.length)]; exact Int.le_refl _
theorem accB_R (b : Int) (hb : 1 ≤ b) : ∀ (d : List UInt8) (v x : Int), 0 ≤ x → v = (if 2147483648 < x then 2147483648 else x) →
 (d.all (digB b) = false → accB b v d = none) ∧ (d.all (digB b) = true → accB b v d = some (if 2147483648 < accR b x d then 2147483648 else accR b x d))
 | [], v, x, _, hv => ⟨fun h => by simp at h, fun _ => by rw [hv]; rfl⟩
 | c :: d, v, x, hx, hv => by
  rw [List.all_cons, accB]
  cases hc : digB b c with
  | false =>
   refine ⟨fun _ => if_pos ?_, fun h => by simp at h⟩; simp only [digB] at hc
   by_cases h1 : 0 ≤ valueI (c.toNat : Int)
   · right
     simp [h1] at hc
     exact hc
   · left; omega
  | true =>
   rw [Bool.true_and]; simp only [digB, Bool.and_eq_true, decide_eq_true_eq] at hc; rw [if_neg (by omega), accR_cons]; generalize valueI (c.toNat : Int) = q at *; have m1 : x * 1 ≤ x * b := Int.mul_le_mul_of_nonneg_left hb hx; refine accB_R b hb d _ _ ?_ ?_
   · have : 0 ≤ x * b := Int.mul_nonneg hx (by omega)
     split <;> omega
   · have m2 : (2147483648 : Int) * 1 ≤ 2147483648 * b := Int.mul_le_mul_of_nonneg_left hb (by decide)
     by_cases hxm : 2147483648 < x
     · rw [if_pos hxm] at hv; subst hv
       repeat' split
       all_goals omega
     · rw [if_neg hxm] at hv; subst hv
       repeat' split
       all_goals omega
theorem drop_tw (p : UInt8 → Bool) : ∀ l : List UInt8, l.dropWhile p = l.drop (l.takeWhile p).length
 | [] => rfl
 | c :: l => by
  rw [List.dropWhile_cons, List.takeWhile_cons]
  cases h : p c with
  | true => simp [drop_tw p l]
  | false => simp
theorem readS_sharp (l : List UInt8) (k : Nat) (below : Bool) (h : 35 ∈ l.drop k) : readS l k below = (0, 0, 3) := by
 have hlen : k < l.length := by
  apply Classical.byContradiction
  intro e; rw [List.drop_eq_nil_of_le (by omega)] at h; simp at h
 have hd : (l.drop k).all isDig = false := by
  rw [List.all_eq_false]; exact ⟨35, h, by decide⟩
 obtain ⟨x, hx, h0, h1, h2⟩ := (dig_all (l.drop k)).2 hd; have hl : (l.drop k).length = l.length - k := List.length_drop; unfold readS; rw [if_neg (fun e => by omega)]; rw [List.getElem?_drop] at h2
 by_cases hx46 : x = 46
 · subst hx46
   rw [if_neg (fun e => by
    rcases e with e | e
    · omega
    · exact e h2)]
   refine if_pos (.inl fun e => ?_)
   have h3 : (l.drop (k + (digL (l.drop k)).length + 1)).all isDig = false := by
    rw [List.all_eq_false]; refine ⟨35, ?_, by decide⟩
    have hs : l.drop k = digL (l.drop k) ++ (l.drop k).drop (digL (l.drop k)).length := by
     have := List.takeWhile_append_dropWhile (p := isDig) (l := l.drop k); rw [drop_tw] at this; exact this.symm
    rw [hs, List.mem_append] at h
    rcases h with h | h
    · have := List.all_eq_true.1 (List.all_takeWhile (p := isDig) (l := l.drop k)) 35 h; exact absurd this (by decide)
    · rw [List.drop_drop, List.drop_eq_getElem_cons (by omega)] at h
      rcases List.mem_cons.1 h with h | h
      · rw [List.getElem?_eq_getElem (by omega)] at h2; have := Option.some.inj h2; rw [← h] at this; exact absurd this (by decide)
      · exact h
   obtain ⟨y, -, -, h4, -⟩ := (dig_all _).2 h3; have : (l.drop (k + (digL (l.drop k)).length + 1)).length = l.length - (k + (digL (l.drop k)).length + 1) := List.length_drop; omega
 · refine if_pos (.inr fun e => ?_); rw [e] at h2; exact hx46 (Option.some.inj h2).symm
theorem rbF_read (l : List UInt8) (h : posL 35 l < l.length) : rbF (l.take (posL 35 l)) (l.drop (posL 35 l + 1)) = readF l := by
 obtain ⟨h1, h2, h3⟩ := posL_split 35 l h
 have hn : basedF l = none → readF l = (0, 0, 3) := fun e => by
  unfold readF; rw [e]; simp only
  have hm : 35 ∈ l := by rw [h1]; simp
  cases l with
  | nil => simp at hm
  | cons c l =>
   by_cases c1 : c = 43
   · rw [if_pos (by simp [c1])]; exact readS_sharp _ _ _ (by subst c1; simpa using hm)
   · rw [if_neg (by simp [c1])]
     by_cases c2 : c = 45
     · rw [if_pos (by simp [c2])]; exact readS_sharp _ _ _ (by subst c2; simpa using hm)
     · rw [if_neg (by simp [c2])]; exact readS_sharp _ _ _ hm
 have hhl : (l.take (posL 35 l)).length = posL 35 l := by rw [List.length_take]; omega
 have hdl : (l.drop (posL 35 l + 1)).length = l.length - (posL 35 l + 1) := List.length_drop
 have hhead : 0 < posL 35 l → (l.take (posL 35 l)).head? = l.head? := fun hp => by
  rw [List.head?_take, if_neg (by omega)]
 generalize posL 35 l = p at *; obtain ⟨a1, a2⟩ := dig_cat 35 (l.drop (p + 1)) (by decide) (l.take p); rw [← h1] at a1 a2; unfold rbF
 by_cases ha : (l.take p).all isDig = false
 · rw [if_pos (.inr (.inr (.inl ha)))]; refine (hn ?_).symm; obtain ⟨x, hx, -, h5, h6⟩ := a2 ha; unfold basedF; refine if_pos (.inr (.inr (.inr (.inr (.inr (.inr fun e => ?_)))))); rw [e] at h6; exact h2 ((Option.some.inj h6) ▸ hx)
 have ha' : (l.take p).all isDig = true := by simpa using ha
 have hdg := a1 ha'; rw [hhl]
 by_cases c0 : p < 1 ∨ 2 < p ∨ (l.take p).head? = some 48 ∨ l.drop (p + 1) = []
 · rw [if_pos (by rcases c0 with c | c | c | c; exact .inl c; exact .inr (.inl c); exact .inr (.inr (.inr (.inl c))); exact .inr (.inr (.inr (.inr c))))]; refine (hn ?_).symm; unfold basedF; refine if_pos ?_; rw [hdg, hhl]
   rcases c0 with c | c | c | c
   · exact .inl c
   · exact .inr (.inl c)
   · by_cases hp : 0 < p
     · exact .inr (.inr (.inl (by rw [← hhead hp]; exact c)))
     · exact .inl (by omega)
   · have : (l.drop (p + 1)).length = 0 := by rw [c]; rfl
     exact .inr (.inr (.inr (.inr (.inr (.inl (by omega))))))
 simp only [not_or] at c0; obtain ⟨c1, c2, c3, c4⟩ := c0; rw [if_neg (fun e => by rcases e with e | e | e | e | e; exact c1 e; exact c2 e; exact ha e; exact c3 e; exact c4 e)]; have hbd := accR_bd (l.take p) ha' 0 (by omega); rw [hhl] at hbd
 have hp2 : (10 : Int) ^ p ≤ 100 := by
  obtain rfl | rfl : p = 1 ∨ p = 2 := by omega
  · decide
  · decide
 have hD : accD 1000 0 (l.take p) = accR 10 0 (l.take p) := by
  rw [accD_R 1000 (by omega) (by omega) (l.take p) ha' 0 0 (by omega) (by simp), if_neg (by omega)]
 have hne : (l.drop (p + 1)).length ≠ 0 := fun e => c4 (List.eq_nil_of_length_eq_zero e)
 have hbase : basedF l = if accR 10 0 (l.take p) < 2 ∨ 36 < accR 10 0 (l.take p) then none else accB (accR 10 0 (l.take p)) 0 (l.drop (p + 1)) := by
  unfold basedF; rw [hdg, hhl, hD]
  by_cases c5 : accR 10 0 (l.take p) < 2 ∨ 36 < accR 10 0 (l.take p)
  · rw [if_pos c5, if_pos (by rcases c5 with c | c; exact .inr (.inr (.inr (.inl c))); exact .inr (.inr (.inr (.inr (.inl c)))))]
  · rw [if_neg c5, if_neg]; intro e
    rcases e with e | e | e | e | e | e | e
    · exact c1 e
    · exact c2 e
    · exact c3 (by rw [hhead (by omega)]; exact e)
    · exact c5 (.inl e)
    · exact c5 (.inr e)
    · omega
    · exact e h3
 generalize accR 10 0 (l.take p) = B at *
 by_cases c5 : B < 2 ∨ 36 < B
 · rw [if_pos c5] at hbase ⊢; exact (hn hbase).symm
 rw [if_neg c5] at hbase ⊢; obtain ⟨b1, b2⟩ := accB_R B (by omega) (l.drop (p + 1)) 0 0 (by omega) (by simp)
 by_cases c6 : (l.drop (p + 1)).all (digB B) = false
 · rw [if_pos c6]; rw [b1 c6] at hbase; exact (hn hbase).symm
 rw [if_neg c6]; rw [b2 (by simpa using c6)] at hbase; unfold readF; rw [hbase]; generalize accR B 0 (l.drop (p + 1)) = V at *; simp only
 by_cases c7 : 2147483647 < V
 · rw [if_pos c7, if_pos (by split <;> omega)]
 · rw [if_neg c7, if_neg (by split <;> omega), if_neg (by omega)]
theorem rrS_read (l : List UInt8) (k : Nat) (hk : k ≤ l.length) (below : Bool) : rrS (l.drop k) below = readS l k below := by
 have hlen : (l.drop k).length = l.length - k := List.length_drop; have hget : ∀ i, (l.drop k)[i]? = l[k + i]? := fun i => List.getElem?_drop; have hdd : ∀ i, (l.drop k).drop i = l.drop (k + i) := fun i => List.drop_drop
 obtain ⟨L, hL⟩ : ∃ L, rrS (l.drop k) below = L := ⟨_, rfl⟩
 rw [hL]; have hl := hL.symm; clear hL; unfold rrS at hl
 by_cases c0 : posL 46 (l.drop k) < (l.drop k).length
 · obtain ⟨h1, h2, h3⟩ := posL_split 46 (l.drop k) c0; rw [if_pos c0] at hl
   have hwl : ((l.drop k).take (posL 46 (l.drop k))).length = posL 46 (l.drop k) := by rw [List.length_take]; omega
   generalize posL 46 (l.drop k) = p at *; obtain ⟨a1, a2⟩ := dig_cat 46 ((l.drop k).drop (p + 1)) (by decide) ((l.drop k).take p); rw [← h1] at a1 a2
   cases hw : ((l.drop k).take p).all isDig with
   | false =>
    obtain ⟨x, hx, -, h5, h6⟩ := a2 hw; rw [hl, if_pos (.inl hw)]; rw [hget] at h6
    symm
    unfold readS; rw [if_neg (fun e => by omega), if_pos (.inr fun e => by rw [e] at h6; exact h2 ((Option.some.inj h6) ▸ hx))]
   | true =>
    have hdg := a1 hw; rw [hget] at h3; have hdl : (l.drop (k + p + 1)).length = l.length - (k + p + 1) := List.length_drop
    have hpe : (l.drop k).drop (p + 1) = l.drop (k + p + 1) := by rw [hdd]; rfl
    rw [hpe, hw] at hl
    have hS : readS l k below = if k + p + 1 + (digL (l.drop (k + p + 1))).length ≠ l.length ∨ p + (digL (l.drop (k + p + 1))).length = 0 then (0, 0, 3)
     else if 12 < (digL (l.drop (k + p + 1))).length ∨ 16383 < accD 2147483648 0 ((l.drop k).take p) then (0, 0, 2)
     else if 1073741823 < accD 2147483648 0 ((l.drop k).take p) * 65536 + nearI (accD 1000000000000 0 (digL (l.drop (k + p + 1))) * 65536) (10 ^ (digL (l.drop (k + p + 1))).length) then (0, 0, 2)
     else (2, sgnI below (accD 2147483648 0 ((l.drop k).take p) * 65536 + nearI (accD 1000000000000 0 (digL (l.drop (k + p + 1))) * 65536) (10 ^ (digL (l.drop (k + p + 1))).length)), 0) := by
     unfold readS; rw [hdg, hwl, if_neg (fun e => by omega), if_neg (fun e => by rcases e with e | e; omega; exact e h3)]
    rw [hS]; clear hS; obtain ⟨b1, b2⟩ := dig_all (l.drop (k + p + 1))
    cases hp : (l.drop (k + p + 1)).all isDig with
    | false =>
     obtain ⟨x, -, -, h5, -⟩ := b2 hp; rw [hl, if_pos (.inr (.inl hp))]
     symm
     exact if_pos (.inl (by omega))
    | true =>
     rw [b1 hp]; rw [hp] at hl; have hD := accD_R 2147483648 (by omega) (by omega) _ hw 0 0 (by omega) (by simp); have n1 := accR_le 10 (by omega) _ (all_value _ hw) 0 (by omega) (by omega); have n2 := accR_le 10 (by omega) _ (all_value _ hp) 0 (by omega) (by omega); have hpb := accR_bd _ hp 0 (by omega); unfold rpF at hl; generalize l.drop (k + p + 1) = pt at *; generalize (l.drop k).take p = wh at *
     by_cases d3 : (l.drop k).length < 2
     · rw [hl, if_pos (.inr (.inr d3))]
       symm
       exact if_pos (.inr (by omega))
     rw [if_neg (fun e => by rcases e with e | e | e; exact absurd e (by decide); exact absurd e (by decide); exact d3 e)] at hl; rw [if_neg (fun e => by rcases e with e | e; omega; omega)]
     by_cases d4 : 12 < pt.length
     · simp only [if_pos d4] at hl; rw [hl, if_pos (by decide)]
       symm
       exact if_pos (.inl d4)
     · simp only [if_neg d4] at hl
       have hT : accD 1000000000000 0 pt = accR 10 0 pt := by
        have hle : (10 : Int) ^ pt.length ≤ 1000000000000 := by
         have : (10 : Nat) ^ pt.length ≤ 10 ^ 12 := Nat.pow_le_pow_right (by decide) (by omega)
         have e : ((10 ^ pt.length : Nat) : Int) = (10 : Int) ^ pt.length := by simp
         omega
        rw [accD_R 1000000000000 (by omega) (by omega) pt hp 0 0 (by omega) (by simp), if_neg (by omega)]
       rw [hT]; have hn := nearI_le (accR 10 0 pt * 65536) (10 ^ pt.length) (by omega) (pow_18 pt.length (by omega)).1; generalize nearI (accR 10 0 pt * 65536) (10 ^ pt.length) = M at *; generalize accR 10 0 wh = A at *; generalize accD 2147483648 0 wh = D at *
       by_cases d5 : 1073741823 < A * 65536 + M
       · simp only [if_pos d5] at hl; rw [hl, if_pos (by decide)]
         symm
         by_cases d6 : 16383 < D
         · exact if_pos (.inr d6)
         · rw [if_neg (fun e => by rcases e with e | e; exact d4 e; exact d6 e), if_pos]
           by_cases d7 : 2147483648 < A
           · rw [if_pos d7] at hD; omega
           · rw [if_neg d7] at hD; omega
       · simp only [if_neg d5] at hl; rw [hl, if_neg (by decide)]
         have hDA : D = A := by rw [hD, if_neg (by omega)]
         subst hDA; rw [if_neg (fun e => by rcases e with e | e; exact d4 e; omega), if_neg d5]
 · rw [if_neg c0] at hl; have hn46 := posL_none 46 (l.drop k) c0; obtain ⟨b1, b2⟩ := dig_all (l.drop k)
   cases hp : (l.drop k).all isDig with
   | false =>
    obtain ⟨x, hx, -, h5, h6⟩ := b2 hp; rw [hl, if_pos (.inr hp)]; rw [hget] at h6
    symm
    unfold readS; rw [if_neg (fun e => by omega)]; exact if_pos (.inr fun e => by rw [e] at h6; exact hn46 ((Option.some.inj h6) ▸ hx))
   | true =>
    rw [hp] at hl
    by_cases d1 : l.drop k = []
    · have e0 : (l.drop k).length = 0 := by rw [d1]; rfl
      rw [hl, if_pos (.inl d1)]
      symm
      unfold readS; rw [b1 hp, if_neg (fun e => by omega), if_pos (.inl (by omega))]
    · have e0 : (l.drop k).length ≠ 0 := fun e => d1 (List.eq_nil_of_length_eq_zero e); rw [if_neg (fun e => by rcases e with e | e; exact d1 e; exact absurd e (by decide))] at hl; rw [hl]
      symm
      unfold readS; rw [b1 hp, if_pos (by omega)]; rw [accD_R 2147483648 (by omega) (by omega) _ hp 0 0 (by omega) (by simp)]; generalize accR 10 0 (l.drop k) = A at *
      by_cases d2 : 2147483647 < A
      · rw [if_pos (show 2147483647 < if 2147483648 < A then 2147483648 else A by split <;> omega), if_pos d2]
      · rw [if_neg (show ¬ 2147483648 < A by omega), if_neg d2]
theorem rrF_read (l : List UInt8) : rrF l = readF l := by
 unfold rrF
 by_cases h : posL 35 l < l.length
 · rw [if_pos h, rbF_read l h]
 · rw [if_neg h]; have hn := posL_none 35 l h
   have hb : basedF l = none := by
    unfold basedF; refine if_pos (.inr (.inr (.inr (.inr (.inr (.inr fun e => hn (List.mem_of_getElem? e)))))))
   unfold readF; rw [hb]; simp only
   by_cases c1 : l.head? = some 43
   · rw [if_pos c1, if_pos c1]; exact rrS_read l 1 (by cases l with | nil => simp at c1 | cons => simp) false
   · rw [if_neg c1, if_neg c1]
     by_cases c2 : l.head? = some 45
     · rw [if_pos c2, if_pos c2]; exact rrS_read l 1 (by cases l with | nil => simp at c2 | cons => simp) true
     · rw [if_neg c2, if_neg c2]; exact rrS_read l 0 (Nat.zero_le _) false
theorem rread6_any (s : ByteArray) (hs : s.size ≤ 9223372036854775807) (w : World) :
 Calls Tryz.prog 80 #[.string s] w fun e w' => e = .returned (readV (readF s.toList)) ∧ Chg NoB w w' := by
 have := rread_any s hs w; rwa [rrF_read] at this
end Go.Proofs.YtoogmimbmgdflaaGreat
