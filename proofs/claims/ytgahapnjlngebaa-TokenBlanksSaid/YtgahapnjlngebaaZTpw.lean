/- Walk: tympanlaw8.TokenPrints. -/
import Derived.Test.YtgahapnjlngebaaZRefc
import Derived.Test.YtgahapnjlngebaaZTbk
namespace Go.Proofs.Ytgahapnjlngebaa
open Go.RowKit

set_option maxRecDepth 100000 in
set_option maxHeartbeats 2000000 in
theorem tokenPrints_any (v : Value) (l : List Tok) (w : World) (hv : ToksIn w v l) :
    Calls Try.prog 6 #[v] w fun e w' => e = .returned (.bool true) ∧ Chg NoB w w' := by
  obtain ⟨hv, hln, hok⟩ := hv
  obtain ⟨a, c, rfl⟩ := hv.len
  have HK := hid' (known8_any w)
  by_cases h1 : 40 < l.length
  · have h1' : 40 < (l.length : Int) := by omega
    clear hv hok
    go_enter Try.func6, Try.ntmps6
    go_wp2_with fail
    refine HK.out.mono ?_
    rintro r w1 ⟨rfl, X1⟩
    go_wp2_with fail
    go_ret
    exact ⟨rfl, X1⟩
  have h1' : (l.length : Int) ≤ 40 := by omega
  have HP := hid' (fun w' (X : Chg NoB w w') => print_any (hv.pure X) (by omega) (fun t ht => (hok t ht).ok))
  have HP8 := hid' (fun w' (X : Chg NoB w w') => rprint_any (hv.pure X) (by omega) (fun t ht => (hok t ht).ok.1))
  generalize printF l = R at *
  obtain ⟨T, E⟩ := R
  simp only at HP HP8
  have HV := hid' hv
  have HM := hid' (fun t ht w => mayTok_any t (hok t ht).ok.1 (hok t ht).ok.2.1 (hok t ht).ok.2.2 w)
  have HM8 := hid' (fun t ht w => rmayT_any t (hok t ht).ok.1 w)
  have HOK := hid' (fun t ht => (hok t ht).ok.1)
  clear hok hv
  go_enter Try.func6, Try.ntmps6
  go_wp2_with fail
  refine HK.out.mono ?_
  rintro r w1 ⟨rfl, X1⟩
  go_wp2_with fail
  go_loopw [3] (fun iv wr => ∃ i : Nat, i ≤ l.length ∧ iv = .int .i64 i ∧ Chg NoB w wr) (fun iv _ => l.length - (intOf iv).toNat)
  case atStart => exact ⟨0, Nat.zero_le _, rfl, X1⟩
  case round =>
    obtain ⟨i, hi, rfl, X⟩ := hrel
    clear X1
    by_cases hlt : i < l.length
    · have hlt' : (i : Int) < l.length := by omega
      have h0i : (0 : Int) ≤ i := by omega
      obtain ⟨x, hx⟩ : ∃ x, l[i]? = some x := ⟨l[i]'(by omega), List.getElem?_eq_getElem _⟩
      have hxm := List.mem_of_getElem? hx
      have HX := hid' (HM.out x hxm)
      have HX8 := hid' (HM8.out x hxm)
      have hxs := HOK.out x hxm
      obtain ⟨a', c', he, hc, hb⟩ := HV.out
      obtain ⟨b, off, rfl, hbl, hcell⟩ := hb (by omega)
      injection he with he1 he2 he3
      subst he1 he3
      have hcx := hcell i x hx
      obtain ⟨c1, c2, c3, c4⟩ := hcx.pure X
      have bl : b < wr.heap.size := Nat.lt_of_lt_of_le hbl X.size
      obtain ⟨xk, xn, xs, xp⟩ := x
      simp only at c1 c2 c3 c4 hxs
      clear hx hxm hcell he2
      by_cases c5 : 5000 < xs.size
      · have c5' : 5000 < (xs.size : Int) := by omega
        go_wp2_with fail
        go_ret
        exact ⟨rfl, X⟩
      have c5' : (xs.size : Int) ≤ 5000 := by omega
      go_upto_region 10 with (fail)
      obtain ⟨d1, d2, d3, d4⟩ := hcx
      simp only at d1 d2 d3 d4
      have e1 : ∀ W, Chg NoB w W → W.cell? ⟨b, off + i * 4, none⟩ = some (.int .i64 xk) := fun W X => X.keeps d1
      have e2 : ∀ W, Chg NoB w W → W.cell? ⟨b, off + i * 4 + 1, none⟩ = some (.int .i64 xn) := fun W X => X.keeps d2
      have e3 : ∀ W, Chg NoB w W → W.cell? ⟨b, off + i * 4 + 2, none⟩ = some (.string xs) := fun W X => X.keeps d3
      have e4 : ∀ W, Chg NoB w W → W.cell? ⟨b, off + i * 4 + 3, none⟩ = some (.int .i64 xp) := fun W X => X.keeps d4
      clear d1 d2 d3 d4 c1 c2 c3 c4
      generalize mayT ⟨xk, xn, xs, xp⟩ = mv at *
      cases mv
      all_goals
        go_region_held3 (fun W' => Chg NoB w W') (first | (with_reducible assumption) | (with_reducible exact Chg.drew (by with_reducible assumption)) | (with_reducible exact Chg.trans (by with_reducible assumption) (by with_reducible assumption)))
          (first | (go_at_call 16; refine (HX.out _).mono ?_; rintro r w4 ⟨rfl, X4⟩) | (go_at_call 17; refine (HX8.out _).mono ?_; rintro r w4 ⟨rfl, X4⟩))
        go_wp2_with fail
        go_roundw
        case rel => exact ⟨i + 1, by omega, by go_num, by with_reducible assumption⟩
        case measure => simp [intOf]; omega
    · have hlt' : ¬ (i : Int) < l.length := by omega
      go_wp2_with fail
      refine (HP.out _ X).mono ?_
      rintro r w2 ⟨rfl, X2⟩
      go_wp2_with fail
      refine (HP8.out _ (X.trans X2)).mono ?_
      rintro r w3 ⟨rfl, X3⟩
      go_wp2_with fail
      go_ret
      exact ⟨by simp, (X.trans X2).trans X3⟩
end Go.Proofs.Ytgahapnjlngebaa
