/- Walk: tympanlaw8.TokenApart. -/
import Derived.Test.YtibpnkggjkaohaaTax
import Derived.Laws.OwnMore
namespace Go.Proofs.Ytibpnkggjkaohaa
open Go.RowKit

/-- An append whose run is known, under a guard that stands. -/
theorem wpList_append_run {P : Program} {w : World} {ops : Array Oper} {rest : List Oper} {o : Oper} {a : Act} {Q : Exit → Act → World → Prop} (hw : Region.wanted o (yielded ops a.tmps) = true) (s x : Operand) (t : TypeId)
    (ho : o.op = .call { callee := .builtin .append, args := #[s, x], argTypes := #[t, t] }) (v u v' : Value) (w' : World) (hs : a.eval s = v) (hx : a.eval x = u)
    (hr : (Builtin.append_ #[t, t] o.type #[v, u]).run P w = .ok v' w') (h : wpList P ops Q rest (a.put o.dst v') w') : wpList P ops Q (o :: rest) a w := by
  refine wpList_step fun K hK => ?_
  rw [if_pos hw]
  unfold Oper.wp execOp
  simp only [ho, resolve, invoke, builtin, Sem.run_bind, Sem.run_pure, Result.andThen_ok, List.map_toArray, List.map_cons, List.map_nil, hs, hx, hr]
  exact hK _ _ h
theorem cat_lst (s t : ByteArray) : ((s ++ ⟨#[10]⟩) ++ t).toList = s.toList ++ 10 :: t.toList := by
  simp only [ByteArray.toList_eq, ByteArray.data_append, Array.toList_append, List.append_assoc]
  rfl
theorem cat_size (s t : ByteArray) : ((s ++ ⟨#[10]⟩) ++ t).size = s.size + 1 + t.size := by
  simp only [ByteArray.size_append]
  rfl
set_option maxRecDepth 100000 in
set_option maxHeartbeats 1000000 in
theorem apart_long (s t : ByteArray) (h : 300 < s.size ∨ 300 < t.size) (w : World) :
    Calls Try.prog 3 #[.string s, .string t] w fun e w' => e = .returned (.bool true) ∧ Chg NoB w w' := by
  have HK := hid' (known8_any w)
  by_cases c : 300 < s.size
  · have c' : 300 < (s.size : Int) := by omega
    clear h c
    go_enter Try.func3, Try.ntmps3
    go_wp2_with fail
    refine HK.out.mono ?_
    rintro r w1 ⟨rfl, X1⟩
    go_wp2_with fail
    go_ret
    exact ⟨rfl, X1⟩
  · have c' : (s.size : Int) ≤ 300 := by omega
    have c1 : 300 < (t.size : Int) := by omega
    clear h c
    go_enter Try.func3, Try.ntmps3
    go_wp2_with fail
    refine HK.out.mono ?_
    rintro r w1 ⟨rfl, X1⟩
    go_wp2_with fail
    go_ret
    exact ⟨rfl, X1⟩
set_option maxRecDepth 100000 in
set_option maxHeartbeats 1000000 in
theorem apart_bad1 (s t : ByteArray) (h1 : s.size ≤ 300) (h2 : t.size ≤ 300) (he : (allF s.toList).1 ≠ 0) (w : World) :
    Calls Try.prog 3 #[.string s, .string t] w fun e w' => e = .returned (.bool true) ∧ Chg NoB w w' := by
  have HK := hid' (known8_any w)
  have HA := hid' (fun w => all_any s (by omega) w)
  have HB := hid' (fun w => all_any t (by omega) w)
  generalize allF s.toList = RA at *
  generalize allF t.toList = RB at *
  obtain ⟨e0, lA, p0⟩ := RA
  have he' : (e0 != 0) = true := by simpa using he
  have c1 : (s.size : Int) ≤ 300 := by omega
  have c2 : (t.size : Int) ≤ 300 := by omega
  clear he
  go_enter Try.func3, Try.ntmps3
  go_wp2_with fail
  refine HK.out.mono ?_
  rintro r w1 ⟨rfl, X1⟩
  go_wp2_with fail
  refine (HA.out _).mono ?_
  rintro r w2 ⟨v, rfl, X2, hown, -⟩
  obtain ⟨va, vc, rfl, -⟩ := own_val hown
  clear hown
  go_wp2_with fail
  refine (HB.out _).mono ?_
  rintro r w3 ⟨v, rfl, X3, hown, -⟩
  obtain ⟨va, vc, rfl, -⟩ := own_val hown
  clear hown
  go_wp2_with fail
  go_ret
  exact ⟨rfl, (X1.trans X2).trans X3⟩
set_option maxRecDepth 100000 in
set_option maxHeartbeats 1000000 in
theorem apart_bad2 (s t : ByteArray) (h1 : s.size ≤ 300) (h2 : t.size ≤ 300) (hs : (allF s.toList).1 = 0) (he : (allF t.toList).1 ≠ 0) (w : World) :
    Calls Try.prog 3 #[.string s, .string t] w fun e w' => e = .returned (.bool true) ∧ Chg NoB w w' := by
  have HK := hid' (known8_any w)
  have HA := hid' (fun w => all_any s (by omega) w)
  have HB := hid' (fun w => all_any t (by omega) w)
  have hU := fun w => all_any ((s ++ ⟨#[10]⟩) ++ t) (by rw [cat_size]; omega) w
  have hat := allF_at t.toList
  rw [size_lst] at hat
  rw [cat_lst, all_two s.toList t.toList (by rw [size_lst]; exact h1) (by rw [size_lst]; exact h2) hs, if_neg he, size_lst] at hU
  have HU := hid' hU
  generalize allF s.toList = RA at *
  generalize allF t.toList = RB at *
  obtain ⟨e0, lA, p0⟩ := RA
  obtain ⟨e1, lB, p1⟩ := RB
  simp only at hs he hat
  subst hs
  have he' : (e1 != 0) = true := by simpa using he
  have c1 : (s.size : Int) ≤ 300 := by omega
  have c2 : (t.size : Int) ≤ 300 := by omega
  have c3 : (p1 : Int) ≤ 300 := by omega
  have c4 : ((p1 + (s.size + 1) : Nat) : Int) = (s.size : Int) + 1 + p1 := by omega
  clear he hat hU
  go_enter Try.func3, Try.ntmps3
  go_wp2_with fail
  refine HK.out.mono ?_
  rintro r w1 ⟨rfl, X1⟩
  go_wp2_with fail
  refine (HA.out _).mono ?_
  rintro r w2 ⟨v, rfl, X2, hown, -⟩
  obtain ⟨va, vc, rfl, -⟩ := own_val hown
  clear hown
  go_wp2_with fail
  refine (HB.out _).mono ?_
  rintro r w3 ⟨v, rfl, X3, hown, -⟩
  obtain ⟨vb, vd, rfl, -⟩ := own_val hown
  clear hown
  have z1 : ((s ++ (⟨#[10]⟩ : ByteArray)).size : Int) ≤ 8388608 := by simp only [ByteArray.size_append]; change ((s.size + 1 : Nat) : Int) ≤ _; omega
  go_wp2_with fail
  refine (HU.out _).mono ?_
  rintro r w4 ⟨v, rfl, X4, -, hn⟩
  obtain rfl := hn rfl
  simp only [c4]
  go_wp2_with fail
  go_ret
  exact ⟨rfl, ((X1.trans X2).trans X3).trans X4⟩
set_option maxRecDepth 100000 in
set_option maxHeartbeats 2000000 in
theorem apart_none (s t : ByteArray) (h1 : s.size ≤ 300) (h2 : t.size ≤ 300) (hs : (allF s.toList).1 = 0) (he : (allF t.toList).1 = 0) (h0 : (allF t.toList).2.1 = []) (w : World) :
    Calls Try.prog 3 #[.string s, .string t] w fun e w' => e = .returned (.bool true) ∧ Chg NoB w w' := by
  obtain ⟨i0, hi, hz0, hz1, hz2⟩ := info_parts infoTok
  have HK := hid' (known8_any w)
  have HA := hid' (fun w => all_any s (by omega) w)
  have HB := hid' (fun w => all_any t (by omega) w)
  have hU := fun w => all_any ((s ++ ⟨#[10]⟩) ++ t) (by rw [cat_size]; omega) w
  have hlA := allF_len s.toList
  rw [size_lst] at hlA
  rw [cat_lst, all_two s.toList t.toList (by rw [size_lst]; exact h1) (by rw [size_lst]; exact h2) hs, if_pos he, size_lst, h0] at hU
  simp only [List.map_nil, List.append_nil] at hU
  have HU := hid' hU
  generalize allF s.toList = RA at *
  generalize allF t.toList = RB at *
  obtain ⟨e0, lA, p0⟩ := RA
  obtain ⟨e1, lB, p1⟩ := RB
  simp only at hs he h0 hlA
  subst hs he h0
  have c1 : (s.size : Int) ≤ 300 := by omega
  have c2 : (t.size : Int) ≤ 300 := by omega
  have HL := hid' hlA
  clear hU hlA
  go_enter Try.func3, Try.ntmps3
  go_wp2_with fail
  refine HK.out.mono ?_
  rintro r w1 ⟨rfl, X1⟩
  go_wp2_with fail
  refine (HA.out _).mono ?_
  rintro r w2 ⟨v, rfl, X2, hown, -⟩
  have HO := hid' hown
  obtain ⟨va, vc, rfl, -⟩ := own_val hown
  clear hown
  go_wp2_with fail
  refine (HB.out _).mono ?_
  rintro r w3 ⟨v, rfl, X3, hown, hn⟩
  obtain rfl := hn rfl
  clear hown hn
  have z1 : ((s ++ (⟨#[10]⟩ : ByteArray)).size : Int) ≤ 8388608 := by simp only [ByteArray.size_append]; change ((s.size + 1 : Nat) : Int) ≤ _; omega
  go_wp2_with fail
  refine (HU.out _).mono ?_
  rintro r w4 ⟨v, rfl, X4, hown4, -⟩
  have HO4 := hid' hown4
  obtain ⟨vb, vd, rfl, -⟩ := own_val hown4
  have hO2 : w4.ownsRow w1.heap.size 28 4 (.slice va lA.length vc) lA.length (toksV lA) := ownB (ownB HO.out X3 (fun _ _ e => e)) X4 (fun _ _ e => e)
  have hap := run_append_owned_none (P := Try.prog) (w := w4) w1.heap.size 23 23 28 i0 4 underToks hi _ _ _ hO2
  have X := ((X1.trans X2).trans X3).trans X4
  clear hown4
  go_wp2_with fail
  go_loopw [14] (fun iv wr => iv = .int .i64 0 ∧ wr = w4) (fun iv _ => 1 - (intOf iv).toNat)
  case atStart => exact ⟨rfl, rfl⟩
  case round =>
    obtain ⟨rfl, rfl⟩ := hrel
    have HT := hid' (tokens_any (l := lA) (m := lA) (by have := HL.out; omega) (ToksAt.of_own HO4.out) (ToksAt.of_own hO2) true (Alike.refl _ _))
    have HAP := hid' hap
    clear hO2 hap
    go_wp2_with (at_builtin; refine wpList_append_run rfl (.tmp 90) (.tmp 91) 23 rfl _ _ _ _ rfl rfl HAP.out ?_)
    refine HT.out.mono ?_
    rintro r w5 ⟨rfl, X5⟩
    go_wp2_with fail
    go_ret
    exact ⟨rfl, X.trans X5⟩
end Go.Proofs.Ytibpnkggjkaohaa
