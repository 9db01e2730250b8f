/- Walk: tympanlaw8.TokenBack. -/
import Derived.Test.YtgahapnjlngebaaZTokf
import Derived.Test.YtgahapnjlngebaaZTky
import Derived.Test.YtgahapnjlngebaaZLtk
namespace Go.Proofs.Ytgahapnjlngebaa
open Go.RowKit

theorem printF_size (l : List Tok) : (printF l).1.length ≤ 20000 := by
  unfold printF
  split
  · simp
  split
  · simp
  split
  · simp
  · simp only; omega
theorem ToksAt.len {w : World} {v : Value} {l : List Tok} (h : ToksAt w v l) : ∃ a c, v = .slice a l.length c := by
  obtain ⟨a, c, h, -⟩ := h
  exact ⟨a, c, h⟩
theorem TokOk.ok {t : Tok} (h : TokOk t) : t.s.size ≤ 9223372036854775807 ∧ -9223372036854775808 ≤ t.kind ∧ t.kind ≤ 9223372036854775807 := by
  obtain ⟨h1, -, h3, -⟩ := h
  have e1 : IntKind.i64.min = -9223372036854775808 := by decide
  have e2 : IntKind.i64.max = 9223372036854775807 := by decide
  simp only [Lit.wf, Bool.and_eq_true, decide_eq_true_eq, e1, e2] at h1
  unfold maxLen at h3
  omega
set_option maxRecDepth 100000 in
set_option maxHeartbeats 2000000 in
theorem back_long (v : Value) (l : List Tok) (s : ByteArray) (w : World) (hv : ToksIn w v l) (hs : s.size ≤ maxLen) (h : 40 < l.length ∨ 500 < s.size) :
    Calls Try.prog 5 #[v, .string s] w fun e w' => e = .returned (.bool true) ∧ Chg NoB w w' := by
  obtain ⟨hv, hln, hok⟩ := hv
  obtain ⟨a, c, rfl⟩ := hv.len
  clear hv hok
  have HK := hid' (known8_any w)
  by_cases h1 : 40 < l.length
  · have h1' : 40 < (l.length : Int) := by omega
    clear h
    go_enter Try.func5, Try.ntmps5
    go_wp2_with fail
    refine HK.out.mono ?_
    rintro r w1 ⟨rfl, X1⟩
    go_wp2_with fail
    go_ret
    exact ⟨rfl, X1⟩
  · have h1' : ¬ 40 < (l.length : Int) := by omega
    have h2' : 500 < (s.size : Int) := by omega
    clear h
    go_enter Try.func5, Try.ntmps5
    go_wp2_with fail
    refine HK.out.mono ?_
    rintro r w1 ⟨rfl, X1⟩
    go_wp2_with fail
    go_ret
    exact ⟨rfl, X1⟩
set_option maxRecDepth 100000 in
set_option maxHeartbeats 2000000 in
theorem back_any (v : Value) (l : List Tok) (s : ByteArray) (w : World) (hv : ToksIn w v l) (hl : l.length ≤ 40) (hs : s.size ≤ 500) :
    Calls Try.prog 5 #[v, .string s] w fun e w' => e = .returned (.bool true) ∧ Chg NoB w w' := by
  obtain ⟨hv, hln, hok⟩ := hv
  obtain ⟨a, c, rfl⟩ := hv.len
  have HK := hid' (known8_any w)
  have HP := hid' (fun w' (X : Chg NoB w w') => print_any (hv.pure X) (by omega) (fun t ht => (hok t ht).ok))
  have HOK := hid' (printF_ok l)
  have HLN := hid' (printF_size l)
  have HV := hid' hv
  have h1' : ¬ 40 < (l.length : Int) := by omega
  have h2' : ¬ 500 < (s.size : Int) := by omega
  generalize printF l = R at *
  obtain ⟨T, E⟩ := R
  simp only at HP HOK HLN
  clear hv hok
  have HA := hid' (fun w => all_any s (by omega) w)
  have HM := hid' (allF_may s.toList)
  have HPA := hid' (printF_all s.toList)
  generalize allF s.toList = RS at *
  obtain ⟨e2, m, at2⟩ := RS
  simp only at HM HPA
  go_enter Try.func5, Try.ntmps5
  go_wp2_with fail
  refine HK.out.mono ?_
  rintro r w1 ⟨rfl, X1⟩
  go_wp2_with fail
  refine (HP.out _ X1).mono ?_
  rintro r w2 ⟨rfl, X2⟩
  have X := X1.trans X2
  clear X1 X2
  by_cases hE : E = 0
  · subst hE
    have HU := fun w => all_any (bytesB T) (by have := HLN.out; have : (bytesB T).size = T.length := rfl; omega) w
    rw [bytesB_lst, (HOK.out rfl).2.2.1, (HOK.out rfl).2.2.2] at HU
    have HU := hid' HU
    rw [(HOK.out rfl).2.2.1]
    go_wp2_with fail
    refine (HU.out _).mono ?_
    rintro r w3 ⟨u3, rfl, X3, hown3, -⟩
    have HT := hid' (tokens_any (by omega) (HV.out.pure (X.trans X3)) (ToksAt.of_own hown3) false (placedF_alike l))
    have X' := X.trans X3
    obtain ⟨va, vc, rfl, -⟩ := own_val hown3
    clear hown3 X X3 HU
    go_wp2_with fail
    refine HT.out.mono ?_
    rintro r w4 ⟨rfl, X4⟩
    have X := X'.trans X4
    clear X' X4
    go_wp2_with fail
    refine (HA.out _).mono ?_
    rintro r w5 ⟨u, rfl, X5, hown5, hn5⟩
    by_cases e5 : e2 = 0
    · subst e5
      have HO5 := hid' hown5
      obtain ⟨ua, uc, rfl, -⟩ := own_val hown5
      have HQ := hid' (print_any (ToksAt.of_own HO5.out) (by have := HM.out.2.1; simp only at this ⊢; omega) (fun t ht => may_ok t (HM.out.1 t ht)))
      have HOK2 := hid' (printF_ok m)
      have HL2 := hid' (printF_size m)
      have HM4 := hid' HM.out.2.1
      clear HM HOK HP
      generalize printF m = R2 at *
      obtain ⟨T2, E2⟩ := R2
      simp only at HQ HOK2 HPA HL2 HM4
      clear hown5 hn5
      go_wp2_with fail
      refine HQ.out.mono ?_
      rintro r w6 ⟨rfl, X6⟩
      have Y := (X.trans X5).trans X6
      by_cases e6 : E2 = 0
      · subst e6
        have HU := fun w => all_any (bytesB T2) (by have := HL2.out; have : (bytesB T2).size = T2.length := rfl; omega) w
        rw [bytesB_lst, (HOK2.out rfl).2.2.1, (HOK2.out rfl).2.2.2] at HU
        have HU := hid' HU
        have hO6 := ownB HO5.out X6 (fun _ _ e => e)
        rw [(HOK2.out rfl).2.2.1]
        have HOM := hid' (placedF_alike m)
        clear X X5 X6 HO5 HQ HPA HA HOK2 HL2
        go_wp2_with fail
        refine (HU.out _).mono ?_
        rintro r w7 ⟨u7, rfl, X7, hown7, -⟩
        have HT := hid' (tokens_any (by have := HM4.out; omega) (ToksAt.of_own (ownB hO6 X7 (fun _ _ e => e))) (ToksAt.of_own hown7) false HOM.out)
        have Z := hid' (Y.trans X7)
        obtain ⟨va, vc, rfl, -⟩ := own_val hown7
        clear hown7 hO6 Y X7 HU
        go_wp2_with fail
        refine HT.out.mono ?_
        rintro r w8 ⟨rfl, X8⟩
        go_wp2_with fail
        go_ret
        exact ⟨rfl, Z.out.trans X8⟩
      · obtain rfl : E2 = 5 := HPA.out.resolve_left e6
        clear e6
        go_wp2_with fail
        go_ret
        exact ⟨rfl, Y⟩
    · obtain rfl := hn5 (HM.out.2.2 e5)
      obtain rfl := HM.out.2.2 e5
      have e5' : (e2 != 0) = true := by simpa using e5
      have Y := X.trans X5
      clear e5 hown5 hn5
      go_wp2_with fail
      go_ret
      exact ⟨rfl, Y⟩
  · have hE' : (E == 0) = false := by simpa using hE
    go_wp2_with fail
    refine (HA.out _).mono ?_
    rintro r w5 ⟨u, rfl, X5, hown5, hn5⟩
    by_cases e5 : e2 = 0
    · subst e5
      have HO5 := hid' hown5
      obtain ⟨ua, uc, rfl, -⟩ := own_val hown5
      have HQ := hid' (print_any (ToksAt.of_own HO5.out) (by have := HM.out.2.1; simp only at this ⊢; omega) (fun t ht => may_ok t (HM.out.1 t ht)))
      have HOK2 := hid' (printF_ok m)
      have HL2 := hid' (printF_size m)
      have HM4 := hid' HM.out.2.1
      clear HM HOK HP
      generalize printF m = R2 at *
      obtain ⟨T2, E2⟩ := R2
      simp only at HQ HOK2 HPA HL2 HM4
      clear hown5 hn5
      go_wp2_with fail
      refine HQ.out.mono ?_
      rintro r w6 ⟨rfl, X6⟩
      have Y := (X.trans X5).trans X6
      by_cases e6 : E2 = 0
      · subst e6
        have HU := fun w => all_any (bytesB T2) (by have := HL2.out; have : (bytesB T2).size = T2.length := rfl; omega) w
        rw [bytesB_lst, (HOK2.out rfl).2.2.1, (HOK2.out rfl).2.2.2] at HU
        have HU := hid' HU
        have hO6 := ownB HO5.out X6 (fun _ _ e => e)
        rw [(HOK2.out rfl).2.2.1]
        have HOM := hid' (placedF_alike m)
        clear X X5 X6 HO5 HQ HPA HA HOK2 HL2
        go_wp2_with fail
        refine (HU.out _).mono ?_
        rintro r w7 ⟨u7, rfl, X7, hown7, -⟩
        have HT := hid' (tokens_any (by have := HM4.out; omega) (ToksAt.of_own (ownB hO6 X7 (fun _ _ e => e))) (ToksAt.of_own hown7) false HOM.out)
        have Z := hid' (Y.trans X7)
        obtain ⟨va, vc, rfl, -⟩ := own_val hown7
        clear hown7 hO6 Y X7 HU
        go_wp2_with fail
        refine HT.out.mono ?_
        rintro r w8 ⟨rfl, X8⟩
        go_wp2_with fail
        go_ret
        exact ⟨rfl, Z.out.trans X8⟩
      · obtain rfl : E2 = 5 := HPA.out.resolve_left e6
        clear e6
        go_wp2_with fail
        go_ret
        exact ⟨rfl, Y⟩
    · obtain rfl := hn5 (HM.out.2.2 e5)
      obtain rfl := HM.out.2.2 e5
      have e5' : (e2 != 0) = true := by simpa using e5
      have Y := X.trans X5
      clear e5 hown5 hn5
      go_wp2_with fail
      go_ret
      exact ⟨rfl, Y⟩
theorem tokenBack_any (v : Value) (l : List Tok) (s : ByteArray) (w : World) (hv : ToksIn w v l) (hs : s.size ≤ maxLen) :
    Calls Try.prog 5 #[v, .string s] w fun e w' => e = .returned (.bool true) ∧ Chg NoB w w' := by
  by_cases h : 40 < l.length ∨ 500 < s.size
  · exact back_long v l s w hv hs h
  · exact back_any v l s w hv (by omega) (by omega)
end Go.Proofs.Ytgahapnjlngebaa
