/- Walk: token.All. -/
import Derived.Test.YtgahapnjlngebaaZTpr
namespace Go.Proofs.Ytgahapnjlngebaa
open Go.RowKit

/-- All words from here on: the error, the words, the place that is told. f: more than there are bytes. -/
def allW : Nat → List UInt8 → Nat → List Tok → Int × List Tok × Nat
  | 0, _, _, acc => (0, acc, 0)
  | f + 1, l, a, acc =>
    if (nextF l).1 ≠ 0 then ((nextF l).1, [], a + (nextF l).2.2.1 + (nextF l).2.2.2)
    else if (tokAt a l).kind = 0 then (0, acc, 0)
    else if acc.length = 4000 then (5, [], a + (nextF l).2.2.1)
    else allW f (l.drop ((nextF l).2.2.1 + (nextF l).2.2.2)) (a + (nextF l).2.2.1 + (nextF l).2.2.2) (acc ++ [tokAt a l])
def allF (l : List UInt8) : Int × List Tok × Nat := if 20000 < l.length then (5, [], 0) else allW (l.length + 1) l 0 []
def Tok.cells (t : Tok) : List Value := [.int .i64 t.kind, .int .i64 t.n, .string t.s, .int .i64 t.pos]
def toksV (l : List Tok) : List Value := l.flatMap Tok.cells
theorem toksV_len (l : List Tok) : (toksV l).length = l.length * 4 := by
  unfold toksV
  induction l with
  | nil => rfl
  | cons t l ih => rw [List.flatMap_cons, List.length_append, ih, List.length_cons]; simp [Tok.cells]; omega
/-- What All leaves: words in a row of its own. -/
def AllEnd (w : World) (R : Int × List Tok × Nat) (r : Ending) (w' : World) : Prop :=
  ∃ v, r = .returned (.tuple #[v, .int .i64 (R.2.2 : Nat), .int .i64 R.1]) ∧ Chg NoB w w' ∧ w'.ownsRow w.heap.size 31 4 v R.2.1.length (toksV R.2.1) ∧ (R.2.1 = [] → v = .slice none 0 0)
theorem infoTok : (Try.prog.info? 31).map (fun i => (i.zero, i.size, i.bytes)) = some (some (.agg #[.int .i64 0, .int .i64 0, .string ⟨#[]⟩, .int .i64 0]), 4, 40) := by kernel_rfl
theorem underToks : Try.prog.underlying 23 = some (.slice 31) := by kernel_rfl

theorem cells_newT (w : World) (o : Obj) (cs : List Value) (t : TypeId) : ∀ j u, cs[j]? = some u → ((w.alloc o).alloc (.cells cs.toArray t)).cell? ((⟨w.heap.size + 1, 0, none⟩ : Addr).add j) = some u := fun j u hj => by
  have := cells_of (blk_new1 w o (.cells cs.toArray t)) j
  rw [add_z, this]; simpa using hj
set_option maxRecDepth 100000 in
set_option maxHeartbeats 2000000 in
theorem all_any (s : ByteArray) (hs : s.size ≤ 1000000) (w : World) :
    Calls Try.prog 8 #[.string s] w (AllEnd w (allF s.toList)) := by
  obtain ⟨R, hR⟩ : ∃ R, allF s.toList = R := ⟨_, rfl⟩
  rw [hR]
  have hA : R = if 20000 < s.toList.length then (5, [], 0) else allW (s.toList.length + 1) s.toList 0 [] := hR.symm
  rw [size_lst] at hA
  clear hR
  obtain ⟨i0, hi, hz0, hz1, hz2⟩ := info_parts infoTok
  by_cases c : 20000 < s.size
  · have HR := hid' (hA.trans (if_pos c))
    have c' : 20000 < (s.size : Int) := by omega
    clear hA c
    go_enter Try.func8, Try.ntmps8
    go_wp2_with fail
    go_ret3
    unfold AllEnd
    rw [HR.out]
    exact ⟨_, rfl, Chg.refl _ _, World.ownsRow_nil _ _ _ _, fun _ => rfl⟩
  have HR := hid' (hA.trans (if_neg c))
  have c' : (s.size : Int) ≤ 20000 := by omega
  clear hA
  go_enter Try.func8, Try.ntmps8
  go_wp2_with fail
  go_loopw [2, 3] (fun lv av wr => ∃ (a f : Nat) (acc : List Tok), a ≤ s.size ∧ s.size - a < f ∧ av = .int .i64 a ∧ acc.length ≤ 4000 ∧ R = allW f (s.toList.drop a) a acc ∧ Chg NoB w wr ∧ wr.ownsRow w.heap.size 31 4 lv acc.length (toksV acc) ∧ (acc = [] → lv = .slice none 0 0)) (fun _ av _ => s.size - (intOf av).toNat)
  case atStart => exact ⟨0, s.size + 1, [], by omega, by omega, rfl, by simp, HR.out, Chg.refl _ _, World.ownsRow_nil _ _ _ _, fun _ => rfl⟩
  case round =>
    obtain ⟨a, f, acc, ha, hf, rfl, hal, hW, X, hown, hnil⟩ := hrel
    obtain ⟨f, rfl⟩ : ∃ f', f = f' + 1 := ⟨f - 1, by omega⟩
    have hNx := next_any s a hs ha wr
    have hpr := next_prog a (s.toList.drop a)
    rw [List.length_drop, size_lst] at hpr
    change Calls _ _ _ _ (fun r w' => r = .returned (wordV (tokAt a (s.toList.drop a)) ((a + (nextF (s.toList.drop a)).2.2.1 + (nextF (s.toList.drop a)).2.2.2 : Nat) : Int) (nextF (s.toList.drop a)).1) ∧ Chg NoB wr w') at hNx
    rw [allW, List.drop_drop] at hW
    generalize nextF (s.toList.drop a) = N at *
    generalize tokAt a (s.toList.drop a) = T at *
    obtain ⟨ne, nt, nk, nn⟩ := N
    obtain ⟨tk, tv, ts, tp⟩ := T
    simp only at hNx hpr hW
    have HN := hid' hNx
    have HP := hid' hpr
    have HO := hid' hown
    have HNL := hid' hnil
    obtain ⟨oa, oc, rfl, -⟩ := own_val hown
    clear hNx hpr hown hnil HR
    by_cases c1 : ne = 0
    rotate_left
    · have HF := hid' (hW.trans (if_pos c1))
      have c1' : (ne != 0) = true := by simpa using c1
      clear hW c1
      go_wp2_with fail
      refine HN.out.mono ?_
      rintro r w1 ⟨rfl, X1⟩
      go_wp2_with fail
      go_ret3
      unfold AllEnd
      rw [HF.out]
      exact ⟨_, rfl, (X.trans X1).alloc _, World.ownsRow_nil _ _ _ _, fun _ => rfl⟩
    have c1' : (ne != 0) = false := by rw [c1]; rfl
    have hW1 := hW.trans (if_neg (by simpa using c1))
    subst c1
    clear hW
    by_cases c2 : tk = 0
    · have HF := hid' (hW1.trans (if_pos c2))
      have c2' : (tk == 0) = true := by simpa using c2
      clear hW1 c2
      go_wp2_with fail
      refine HN.out.mono ?_
      rintro r w1 ⟨rfl, X1⟩
      go_wp2_with fail
      go_ret3
      unfold AllEnd
      rw [HF.out]
      have X2 := X1.alloc (.cells #[.int .i64 tk, .int .i64 tv, .string ts, .int .i64 tp] 31)
      exact ⟨_, rfl, X.trans X2, ownB HO.out X2 (fun _ _ e => e), HNL.out⟩
    have c2' : (tk == 0) = false := by simpa using c2
    have hW2 := hW1.trans (if_neg c2)
    obtain ⟨p1, p2, p3⟩ := HP.out c2
    clear hW1 HP c2
    by_cases c3 : acc.length = 4000
    · have HF := hid' (hW2.trans (if_pos c3))
      have c3' : ((acc.length : Int) == 4000) = true := by rw [c3]; rfl
      have HTP := hid' p3
      clear hW2 c3 p3
      go_wp2_with fail
      refine HN.out.mono ?_
      rintro r w1 ⟨rfl, X1⟩
      go_wp2_with fail
      have hb := blk_new w1 (.cells #[.int .i64 tk, .int .i64 tv, .string ts, .int .i64 tp] 31)
      have X2 := (X.trans X1).alloc (.cells #[.int .i64 tk, .int .i64 tv, .string ts, .int .i64 tp] 31)
      have R5 := cells_of hb
      have l5 := blk_lt hb
      generalize w1.alloc (.cells #[.int .i64 tk, .int .i64 tv, .string ts, .int .i64 tp] 31) = w2 at *
      clear hb X1
      go_quiet (fail)
      go_wp2_with fail
      go_ret3
      unfold AllEnd
      rw [HF.out]
      exact ⟨_, by rw [HTP.out]; rfl, X2.drewN _, World.ownsRow_nil _ _ _ _, fun _ => rfl⟩
    have c3' : ((acc.length : Int) == 4000) = false := by simp; omega
    have hW3 := hW2.trans (if_neg c3)
    have HF := hid' hW3
    have c4 : acc.length < 4000 := by omega
    clear hW2 hW3 c3 p3
    go_wp2_with fail
    refine HN.out.mono ?_
    rintro r w1 ⟨rfl, X1⟩
    have HO2 := hid' (fun o o' => ownB HO.out ((X1.alloc o).alloc o') (fun _ _ e => e))
    have HX := hid' (fun o o' => (X.trans X1).alloc o |>.alloc o')
    go_wp2_with (at_builtin; refine wpList_append_own_at _ rfl (.tmp 31) (.tmp 33) 23 rfl w.heap.size 31 i0 (.agg #[.int .i64 0, .int .i64 0, .string ⟨#[]⟩, .int .i64 0]) 4 40 underToks hi hz0 hz1 hz2 rfl (by decide) (.slice oa acc.length oc) acc.length (toksV acc) rfl (HO2.out _ _) _ 1 1 (Tok.cells ⟨tk, tv, ts, tp⟩) rfl rfl (fun j' u hj' => cells_newT _ _ _ _ j' u hj') (fun u hu => by simp only [Tok.cells, List.mem_cons, List.not_mem_nil, or_false] at hu; rcases hu with rfl | rfl | rfl | rfl <;> rfl) ?_ ?_ ?_ ?_; (unfold maxLen; omega); omega; (have := X.size; have := X1.size; simp; omega))
    intro v' w2 hown' hgr' hn' hat'
    have HO' := hid' (show w2.ownsRow w.heap.size 31 4 v' (acc ++ [(⟨tk, tv, ts, tp⟩ : Tok)]).length (toksV (acc ++ [(⟨tk, tv, ts, tp⟩ : Tok)])) by
      have e : toksV (acc ++ [(⟨tk, tv, ts, tp⟩ : Tok)]) = toksV acc ++ Tok.cells ⟨tk, tv, ts, tp⟩ := by simp [toksV]
      rw [e, List.length_append, List.length_singleton]; exact hown')
    have HX' := hid' (Chg.grown (HX.out _ _) hgr' (fun k hk => .inr (own_ge HO.out k (by simpa using hk)).1))
    clear hown' hgr' hn' hat'
    go_wp2_with fail
    go_roundw
    case rel => exact ⟨a + nk + nn, f, acc ++ [⟨tk, tv, ts, tp⟩], by omega, by omega, by first | rfl | go_num, by simp; omega, by rw [HF.out]; simp only [Nat.add_assoc], HX'.out, HO'.out, fun e => by simp at e⟩
    case measure => simp [intOf]; omega
end Go.Proofs.Ytgahapnjlngebaa
