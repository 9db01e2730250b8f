/- Ubr, Ubs -/
import Derived.Test.YtpgkjgceldleaaaZBuildd
import Derived.Test.YtpgkjgceldleaaaZBuildc
import Derived.Test.YtpgkjgceldleaaaZScpc
import Derived.Test.YtpgkjgceldleaaaZOps
import Derived.Test.YtpgkjgceldleaaaZShell
/- BuildBinds, plain: what the dictionaries hold; what Bind does to the law's two arrays. -/
namespace Go.Proofs.Ytpgkjgceldleaaa
open Go.RowKit

/-- The system's dictionary, and the user's with one name that stands for null. -/
noncomputable def bQ (out : ByteArray) : List DQ := [(sysK 162, 162, true), ([(nameO out, nullO)], 200, false)]
theorem bQ_ok (out : ByteArray) : OKQ (bQ out) := by
  refine ⟨fun q hq => ?_, by simp [bQ]⟩
  simp only [bQ, List.mem_cons, List.not_mem_nil, or_false] at hq
  rcases hq with rfl | rfl
  · simp only [sysK_length]; decide
  · simp
theorem bQ_set (out : ByteArray) : sysQ.set 1 (setK [] (nameO out) nullO, 200, false) = bQ out := rfl
theorem bQ_used (out : ByteArray) : used (hQ (bQ out)) = 726 := by
  have h1 : hQ (bQ out) = [dcellk true (sysK 162) 162] ++ [dcellk false [(nameO out, nullO)] 200] := by simp [hQ, bQ]
  rw [h1, used_cat', used_dc _ _ _ (by rw [sysK_length]; decide), used_dc _ _ _ (by simp)]
theorem bQ_len (out : ByteArray) : (hQ (bQ out)).length = 2 := by rw [hQ, List.length_map]; rfl
theorem bQ_out (out : ByteArray) : lookN (bQ out) (nameO out) 2 = (nullO, dcn 1, 0) := by
  show (match getK [(nameO out, nullO)] (nameO out) with | some v => (v, dcn 1, (0 : Int)) | none => lookN (bQ out) (nameO out) 1) = _
  simp [getK, same_self]
theorem bQ_op (out : ByteArray) (i : Nat) (hi : i < 162) (hne : opN ((i : Int) + 1) ≠ out) : lookN (bQ out) (nameO (opN ((i : Int) + 1))) 2 = (opO ((i : Int) + 1), dcn 0, 0) := by
  show (match getK [(nameO out, nullO)] (nameO (opN ((i : Int) + 1))) with | some v => (v, dcn 1, (0 : Int)) | none => lookN (bQ out) (nameO (opN ((i : Int) + 1))) 1) = _
  have h : getK [(nameO out, nullO)] (nameO (opN ((i : Int) + 1))) = none := by
    simp only [getK]
    rw [if_neg]
    rw [same_name]
    simp
    exact fun e => hne e.symm
  rw [h]
  show (match getK (sysK 162) (nameO (opN ((i : Int) + 1))) with | some v => (v, dcn 0, (0 : Int)) | none => lookN (bQ out) (nameO (opN ((i : Int) + 1))) 0) = _
  rw [sysK_get 162 i hi (Nat.le_refl _)]
theorem DicAt.app {L : List C} {N : Nat} {c : C} (D : DicAt L N c) (X : List C) : DicAt (L ++ X) N c :=
  ⟨by rw [List.getElem?_append_left D.lt]; exact D.cell, D.text, D.dict, D.free, D.room, D.place⟩
/-- What Find answers, whatever lies behind the dictionaries. -/
def bFR (out : ByteArray) (L : List C) (x v : O) (e : Int) : Prop := ∃ X s, L = hQ (bQ out) ++ X ∧ s.size ≤ 100 ∧ x = exeN s ∧ v = (lookN (bQ out) (nameO s) 2).1 ∧ e = (lookN (bQ out) (nameO s) 2).2.2
theorem b_find (out : ByteArray) {w0 w : World} {sp hp : Nat} {M : List (Nat × List C)} {K : List (Nat × Obj)} {X : List C} (S : ScpAt w0 w ((hp, hQ (bQ out) ++ X) :: M) K sp hp (dsQ 2)) (s : ByteArray) (hs : s.size ≤ 100) :
    Calls Try.prog 33 #[ptr sp, (exeN s).val] w fun x w' => x = .returned (.tuple #[(lookN (bQ out) (nameO s) 2).1.val, (lookN (bQ out) (nameO s) 2).2.1.val, .int .i64 (lookN (bQ out) (nameO s) 2).2.2]) ∧ ScpAt w0 w' ((hp, hQ (bQ out) ++ X) :: M) K sp hp (dsQ 2) := by
  have := scp_find S (List.mem_cons_self ..) (by rw [dsQ_length]; decide) (by rw [dsQ_length]; decide) (exeN s) (key_name _ s true hs) (getQ (bQ out) (nameO s)) (fun d hd w2 K2 A => by
    obtain ⟨i, hi, rfl⟩ := List.mem_map.1 hd
    have hi2 : i < (bQ out).length := List.mem_range.1 hi
    obtain ⟨D, h1, h2, h3⟩ := q_at (bQ out) (bQ_ok out) i (bQ out)[i] (List.getElem?_eq_getElem hi2)
    have e : getQ (bQ out) (nameO s) (dcn i) = match getK (bQ out)[i].1 (nameO s) with | some v => (v, 0) | none => (O.nil, 9) := by
      have hq : (bQ out).getD i ([], 0, false) = (bQ out)[i] := by rw [List.getD_eq_getElem?_getD, List.getElem?_eq_getElem hi2]; rfl
      simp only [getQ, Int.toNat_natCast, hq]
      cases getK (bQ out)[i].1 (nameO s) <;> rfl
    rw [e]
    cases hg : getK (bQ out)[i].1 (nameO s) with
    | none => exact at_dgetK A (List.mem_cons_self ..) i _ _ (D.app X) h1 h2 h3 (nameO s) (key_self _ s hs) O.nil 9 (.inr ⟨hg, rfl, rfl⟩)
    | some v => exact at_dgetK A (List.mem_cons_self ..) i _ _ (D.app X) h1 h2 h3 (nameO s) (key_self _ s hs) v 0 (.inl ⟨hg, rfl⟩))
  rw [find_look] at this
  exact this
/-! ### The law's arrays -/
noncomputable def LB (out : ByteArray) (us bs : List O) : List C := hQ (bQ out) ++ [rowC us, rowC bs]
theorem LB_2 (out : ByteArray) (us bs : List O) : (LB out us bs)[2]? = some (rowC us) := by
  rw [LB, List.getElem?_append_right (by rw [bQ_len]; decide), bQ_len]; rfl
theorem LB_3 (out : ByteArray) (us bs : List O) : (LB out us bs)[3]? = some (rowC bs) := by
  rw [LB, List.getElem?_append_right (by rw [bQ_len]; decide), bQ_len]; rfl
theorem LB_s2 (out : ByteArray) (us bs cs : List O) : (LB out us bs).set 2 (rowC cs) = LB out cs bs := by
  rw [LB, List.set_append_right _ _ (by rw [bQ_len]; decide), bQ_len]; rfl
theorem LB_s3 (out : ByteArray) (us bs cs : List O) : (LB out us bs).set 3 (rowC cs) = LB out us cs := by
  rw [LB, List.set_append_right _ _ (by rw [bQ_len]; decide), bQ_len]; rfl
theorem set_aX {L : List C} {N : Nat} {is : List O} (hc : L[N]? = some (rowC is)) (hN : N ≤ 40000) (hs : is.length ≤ 40000) (z : Int) (hz : z = is.length) (i : Nat) (hi : i < is.length) (x : O) (hx : mayH L x = true) : setH L (arX N z) i x = (L.set N (rowC (is.set i x)), 0) := by
  unfold setH
  have hf : findE L (arX N z) = 0 := by simp [findE, may_arX hc hN hs z hz, held]
  rw [hf]
  simp only [ne_eq, not_true_eq_false, if_false, Int.toNat_natCast, hc, lenOf, atOf]
  have e9 : (9 : Int) = 10 ↔ False := by decide
  simp only [e9, if_false, if_neg (show ¬ ((i : Int) < 0 ∨ z ≤ i) by omega), Bool.false_eq_true, hx, Int.zero_add, Int.toNat_natCast]
  simp
/-- What an item becomes, and how many names that binds. -/
inductive ImB (out : ByteArray) : O → O → Int → Prop
  | idle {x : O} : x.exec = false → ImB out x x 0
  | op {x : O} : x.exec = true → x.kind ≠ 9 → x.kind ≠ 5 → ImB out x x 0
  | out : out.size ≤ 100 → ImB out (exeN out) (exeN out) 0
  | bind (i : Nat) : i < 162 → opN ((i : Int) + 1) ≠ out → ImB out (exeN (opN ((i : Int) + 1))) (opO ((i : Int) + 1)) 1
inductive ImsB (out : ByteArray) : List O → List O → Int → Prop
  | nil : ImsB out [] [] 0
  | cons {x y : O} {c d : Int} {xs ys : List O} : ImB out x y c → ImsB out xs ys d → ImsB out (x :: xs) (y :: ys) (c + d)
theorem ImsB.length {out : ByteArray} {xs ys : List O} {c : Int} (h : ImsB out xs ys c) : ys.length = xs.length := by
  induction h with
  | nil => rfl
  | cons _ _ ih => simp [ih]
theorem set_mid {α : Type} (pre post : List α) (x y : α) : (pre ++ x :: post).set pre.length y = pre ++ y :: post := by
  rw [List.set_append_right _ _ (Nat.le_refl _), Nat.sub_self]; rfl
theorem inner_2 {out : ByteArray} {xs ys : List O} {c : Int} (h : ImsB out xs ys c) : ∀ (pre post bs wait : List O) (z n : Int) (s' : BiS), z = ((pre ++ xs ++ post).length : Int) → (pre ++ xs ++ post).length ≤ 1000 → 0 ≤ n → n + xs.length ≤ 100000 →
    InnerR (bFR out) (arN 2 z) (pre.length + xs.length) post (LB out (pre ++ ys ++ post) bs, wait, n + c) s' → InnerR (bFR out) (arN 2 z) pre.length (xs ++ post) (LB out (pre ++ xs ++ post) bs, wait, n) s' := by
  induction h with
  | nil =>
    intro pre post bs wait z n s' _ _ _ _ hr
    simpa using hr
  | @cons x y c d xs ys him _ ih =>
    intro pre post bs wait z n s' hz hl hn0 hn9 hr
    have hyl : (pre ++ [y] ++ xs ++ post).length = (pre ++ x :: xs ++ post).length := by simp
    have ih' := fun (n' : Int) (h0 : 0 ≤ n') (h9 : n' + xs.length ≤ 100000) (hnc : n' + d = n + (c + d)) => ih (pre ++ [y]) post bs wait z n' s' (by rw [hyl]; exact hz) (by rw [hyl]; exact hl) h0 h9 (by
      rw [hnc]
      have e1 : (pre ++ [y]).length + xs.length = pre.length + (x :: xs).length := by simp; omega
      have e2 : pre ++ [y] ++ ys ++ post = pre ++ y :: ys ++ post := by simp
      rw [e1, e2]
      exact hr)
    have e3 : (pre ++ [y]).length = pre.length + 1 := by simp
    rw [e3] at ih'
    have e4 : pre ++ [y] ++ xs ++ post = pre ++ y :: xs ++ post := by simp
    rw [e4] at ih'
    simp only [List.length_cons, Int.natCast_add, Int.natCast_one] at hn9
    rw [List.cons_append]
    cases him with
    | idle h1 => exact .skip h1 (ih' n hn0 (by omega) (by omega))
    | op h1 h2 h3 => exact .other h1 h2 h3 (ih' n hn0 (by omega) (by omega))
    | out hs =>
      have hl := bQ_out out
      exact .stay (v := nullO) (e := 0) rfl rfl ⟨_, out, rfl, hs, rfl, by rw [hl], by rw [hl]⟩ (.inr (by decide)) (ih' n hn0 (by omega) (by omega))
    | bind i hi hne =>
      have hlk := bQ_op out i hi hne
      refine .bind (v := opO ((i : Int) + 1)) (L' := LB out (pre ++ opO ((i : Int) + 1) :: xs ++ post) bs) rfl rfl ⟨_, opN ((i : Int) + 1), rfl, opN_size i, rfl, by rw [hlk], by rw [hlk]⟩ rfl rfl ?_ hn0 (by omega) (ih' (n + 1) (by omega) (by omega) (by omega))
      refine (set_a (N := 2) (LB_2 out (pre ++ exeN (opN ((i : Int) + 1)) :: xs ++ post) bs) (by decide) (by omega) z hz pre.length (by simp) (opO ((i : Int) + 1)) (may_op _ _ (by omega) (by omega))).trans ?_
      rw [LB_s2]
      congr 2
      rw [List.append_assoc, List.cons_append, set_mid, List.append_assoc, List.cons_append]
theorem inner_3 {out : ByteArray} {x y : O} {c : Int} (h : ImB out x y c) (us wait : List O) (n : Int) (hn0 : 0 ≤ n) (hn9 : n ≤ 99999) : InnerR (bFR out) (arX 3 1) 0 [x] (LB out us [x], wait, n) (LB out us [y], wait, n + c) := by
  cases h with
  | idle h1 => rw [Int.add_zero]; exact .skip h1 .nil
  | op h1 h2 h3 => rw [Int.add_zero]; exact .other h1 h2 h3 .nil
  | out hs =>
    have hl := bQ_out out
    rw [Int.add_zero]
    exact .stay (v := nullO) (e := 0) rfl rfl ⟨_, out, rfl, hs, rfl, by rw [hl], by rw [hl]⟩ (.inr (by decide)) .nil
  | bind i hi hne =>
    have hlk := bQ_op out i hi hne
    refine .bind (v := opO ((i : Int) + 1)) (L' := LB out us [opO ((i : Int) + 1)]) rfl rfl ⟨_, opN ((i : Int) + 1), rfl, opN_size i, rfl, by rw [hlk], by rw [hlk]⟩ rfl rfl ?_ hn0 (by omega) .nil
    refine (set_aX (N := 3) (LB_3 out us [exeN (opN ((i : Int) + 1))]) (by decide) (by simp) 1 rfl 0 (by simp) (opO ((i : Int) + 1)) (may_op _ _ (by omega) (by omega))).trans ?_
    rw [LB_s3]
    rfl
theorem wf_small (n : Int) (h0 : 0 ≤ n) (h1 : n ≤ 40000) : (Lit.int .i64 n).wf = true := by
  have e1 : IntKind.i64.min = -9223372036854775808 := by decide
  have e2 : IntKind.i64.max = 9223372036854775807 := by decide
  simp only [Lit.wf, Bool.and_eq_true, decide_eq_true_eq, e1, e2]
  omega
/-- Bind, of the first array. -/
theorem outer_two {out : ByteArray} {xs ys : List O} {c d : Int} {x y : O} (h : ImsB out xs ys c) (h2 : ImB out x y d) (hl : xs.length ≤ 30) (hc : 0 ≤ c ∧ c ≤ 1000) :
    OuterR (bFR out) 2 (LB out (xs ++ [arX 3 1]) [x]) [arN 2 (xs.length + 1)] [] 0 (LB out (ys ++ [arX 3 1]) [y], c + d) := by
  have hz : ((xs.length : Int) + 1) = ((xs ++ [arX 3 1]).length : Int) := by simp
  have hin : InnerR (bFR out) (arN 2 (xs.length + 1)) 0 (xs ++ [arX 3 1]) (LB out (xs ++ [arX 3 1]) [x], [], 0) (LB out (ys ++ [arX 3 1]) [x], [] ++ [arX 3 1], c) := by
    have := inner_2 h [] [arX 3 1] [x] [] (xs.length + 1) 0 (LB out (ys ++ [arX 3 1]) [x], [] ++ [arX 3 1], 0 + c) (by simp) (by simp; omega) (Int.le_refl _) (by omega) (.push rfl rfl (may_arX (N := 3) (LB_3 out _ _) (by decide) (by simp) _ rfl) (by decide) .nil)
    simpa using this
  refine OuterR.fresh (wait := []) (a := arN 2 (xs.length + 1)) ⟨wf_small 2 (by decide) (by decide), wf_small 0 (by decide) (by decide), wf_small ((xs.length : Int) + 1) (by omega) (by omega)⟩ (by simp) (by decide) (items_a (N := 2) (LB_2 out _ _) (by decide) (by simp; omega) _ hz) (by simp; omega) hin ?_
  refine OuterR.fresh (wait := []) (a := arX 3 1) ⟨wf_small 3 (by decide) (by decide), wf_small 0 (by decide) (by decide), wf_small 1 (by decide) (by decide)⟩ (by simp) (by decide) (items_arX (N := 3) (LB_3 out _ _) (by decide) (by simp) _ rfl) (by simp) (inner_3 h2 _ [] c hc.1 (by omega)) .done
end Go.Proofs.Ytpgkjgceldleaaa
/- BuildBinds: the walk. -/
namespace Go.Proofs.Ytpgkjgceldleaaa
open Go.RowKit

theorem name22_any (s : ByteArray) (w : World) : Calls Try.prog 20 #[.string s] w fun e w' => e = .returned (exeN s).val ∧ Chg NoB w w' := by
  go_enter Try.func20, Try.ntmps20
  go_wp2_with fail
  refine bodyPost_ret (v := (exeN s).val) ?_ rfl ⟨rfl, (Chg.refl NoB w).alloc _⟩
  simp [results, Try.results20, go_sem]
/-- The law's heap with its scope. -/
def BBt (w0 w : World) (out : ByteArray) (hp cp : Nat) (X : List C) (K : List (Nat × Obj)) : Prop := ScpAt w0 w [(hp, hQ (bQ out) ++ X)] K cp hp (dsQ 2)
theorem b_gets (out s : ByteArray) (hs : s.size ≤ 100) {w0 : World} {hp : Nat} {M : List (Nat × List C)} {X : List C} : ∀ d ∈ dsQ 2, ∀ w2 K2, Ats w0 w2 ((hp, hQ (bQ out) ++ X) :: M) K2 → Calls Try.prog 55 #[ptr hp, d.val, (nameO s).val] w2 fun x w' => x = .returned (.tuple #[(getQ (bQ out) (nameO s) d).1.val, .int .i64 (getQ (bQ out) (nameO s) d).2]) ∧ Ats w0 w' ((hp, hQ (bQ out) ++ X) :: M) K2 := by
  intro d hd w2 K2 A
  obtain ⟨i, hi, rfl⟩ := List.mem_map.1 hd
  have hi2 : i < (bQ out).length := List.mem_range.1 hi
  obtain ⟨D, h1, h2, h3⟩ := q_at (bQ out) (bQ_ok out) i (bQ out)[i] (List.getElem?_eq_getElem hi2)
  have e : getQ (bQ out) (nameO s) (dcn i) = match getK (bQ out)[i].1 (nameO s) with | some v => (v, 0) | none => (O.nil, 9) := by
    have hq : (bQ out).getD i ([], 0, false) = (bQ out)[i] := by rw [List.getD_eq_getElem?_getD, List.getElem?_eq_getElem hi2]; rfl
    simp only [getQ, Int.toNat_natCast, hq]
    cases getK (bQ out)[i].1 (nameO s) <;> rfl
  rw [e]
  cases hg : getK (bQ out)[i].1 (nameO s) with
  | none => exact at_dgetK A (List.mem_cons_self ..) i _ _ (D.app X) h1 h2 h3 (nameO s) (key_self _ s hs) O.nil 9 (.inr ⟨hg, rfl, rfl⟩)
  | some v => exact at_dgetK A (List.mem_cons_self ..) i _ _ (D.app X) h1 h2 h3 (nameO s) (key_self _ s hs) v 0 (.inl ⟨hg, rfl⟩)
section
variable {w0 w w' : World} {out : ByteArray} {hp cp : Nat} {X X' : List C} {K K' : List (Nat × Obj)}
theorem ScpAt.overB {w0 w w' : World} {M M' : List (Nat × List C)} {K K' : List (Nat × Obj)} {sp hp : Nat} {ds : List O} (S : ScpAt w0 w M K sp hp ds) (h : ∀ E, Ats w0 w M (E ++ K) → Ats w0 w' M' (E ++ K')) : ScpAt w0 w' M' K' sp hp ds := by
  obtain ⟨g, cap, cur, h1, h2, h3, h4, A⟩ := S
  exact ⟨g, cap, cur, h1, h2, h3, h4, h [_, _] A⟩
theorem BBt.pure (S : BBt w0 w out hp cp X K) (h : Chg NoB w w') : BBt w0 w' out hp cp X K := ScpAt.pure S h
theorem BBt.alloc (S : BBt w0 w out hp cp X K) (o : Obj) : BBt w0 (w.alloc o) out hp cp X ((w.heap.size, o) :: K) := ScpAt.overB S fun _ A => (A.alloc o).perm List.perm_middle.symm
theorem BBt.keep (S : BBt w0 w out hp cp X K) (h : K'.Sublist K) : BBt w0 w out hp cp X K' := ScpAt.overB S fun _ A => A.keep (h.append_left _)
theorem BBt.box (S : BBt w0 w out hp cp X K) (q : Nat × Obj) (hq : q ∈ K) : w.heap[q.1]? = some q.2 := by
  obtain ⟨g, cap, cur, h1, h2, h3, h4, A⟩ := S
  exact A.box q (List.mem_cons_of_mem _ (List.mem_cons_of_mem _ hq))
theorem BBt.chg (S : BBt w0 w out hp cp X K) : Chg NoB w0 w := ScpAt.chg S
/-- What goes for the heap and the boxes. -/
theorem BBt.ask {f : Nat} {args : Array Value} {r : Value} (S : BBt w0 w out hp cp X K)
    (h : ∀ K', Ats w0 w [(hp, hQ (bQ out) ++ X)] K' → Calls Try.prog f args w fun e w' => e = .returned r ∧ Ats w0 w' [(hp, hQ (bQ out) ++ X')] K') :
    Calls Try.prog f args w fun e w' => e = .returned r ∧ BBt w0 w' out hp cp X' K := by
  obtain ⟨g, cap, cur, h1, h2, h3, h4, A⟩ := S
  exact (h _ A).mono fun e w' ⟨e1, A'⟩ => ⟨e1, g, cap, cur, h1, h2, h3, h4, A'⟩
/-- Bind, by what it is to do. -/
theorem BBt.bind {f : Nat} {n' : Int} {z : Int} (S : BBt w0 w out hp cp X K) (hm : mayH (hQ (bQ out) ++ X) (arN 2 z) = true) (hO : OuterR (bFR out) f (hQ (bQ out) ++ X) [arN 2 z] [] 0 (hQ (bQ out) ++ X', n')) :
    Calls Try.prog 21 #[ptr hp, ptr cp, (arN 2 z).val] w fun e w' => e = .returned (.tuple #[.int .i64 n', .int .i64 0]) ∧ BBt w0 w' out hp cp X' K := by
  obtain ⟨g, cap, cur, h1, h2, h3, h4, A⟩ := S
  refine (bind_any (cp := cp) A (arN 2 z) rfl hm (bFR out) (fun L x v e hF W E A' => ?_) hO).mono fun e w' ⟨e1, A'⟩ => ⟨e1, g, cap, cur, h1, h2, h3, h4, A'⟩
  obtain ⟨X2, s, rfl, hs, rfl, rfl, rfl⟩ := hF
  have A2 : Ats w0 W [(hp, hQ (bQ out) ++ X2)] ((g, .cells cur 36) :: (cp, scpBox hp g (dsQ 2).length cap) :: (E ++ K)) := A'.perm (by
    classical refine List.perm_iff_count.2 fun q => ?_
    simp only [List.count_append, List.count_cons]
    omega)
  have := scp_findQ (Qp := fun w' => Ats w0 w' [(hp, hQ (bQ out) ++ X2)] (E ++ (g, .cells cur 36) :: (cp, scpBox hp g (dsQ 2).length cap) :: K)) (ds := dsQ 2) rfl h1 h2 h3 h4 A2 (fun w' A3 => A3.perm (by
    classical refine List.perm_iff_count.2 fun q => ?_
    simp only [List.count_append, List.count_cons]
    omega)) (List.mem_cons_self ..) (by rw [dsQ_length]; decide) (exeN s) (key_name _ s true hs) (getQ (bQ out) (nameO s)) (b_gets out s hs)
  rw [find_look] at this
  exact this.mono fun r w' ⟨e1, e2⟩ => ⟨_, e1, e2⟩
end
/-! ### The law's items -/
def kB (z : List Int) (i : Nat) : Nat := (z.getD i 0 % 162).toNat
theorem kB_lt (z : List Int) (i : Nat) : kB z i < 162 := by unfold kB; omega
noncomputable def itB (z : List Int) (i : Nat) : O := ⟨5, decide (z.getD i 0 < 200), 0, 0, 0, opN ((kB z i : Int) + 1)⟩
def onB (out : ByteArray) (z : List Int) (i : Nat) : Prop := z.getD i 0 < 200 ∧ opN ((kB z i : Int) + 1) ≠ out
open Classical in
noncomputable def yB (out : ByteArray) (z : List Int) (i : Nat) : O := if onB out z i then opO ((kB z i : Int) + 1) else itB z i
open Classical in
noncomputable def cB (out : ByteArray) (z : List Int) (i : Nat) : Int := if onB out z i then 1 else 0
noncomputable def cntB (out : ByteArray) (z : List Int) (j : Nat) : Int := (List.range j).foldl (fun c i => c + cB out z i) 0
theorem cntB_succ (out : ByteArray) (z : List Int) (j : Nat) : cntB out z (j + 1) = cntB out z j + cB out z j := by simp [cntB, List.range_succ]
theorem cB_is (out : ByteArray) (z : List Int) (i : Nat) : 0 ≤ cB out z i ∧ cB out z i ≤ 1 := by unfold cB; split <;> decide
theorem cntB_is (out : ByteArray) (z : List Int) (j : Nat) : 0 ≤ cntB out z j ∧ cntB out z j ≤ j := by
  induction j with
  | zero => exact ⟨Int.le_refl _, Int.le_refl _⟩
  | succ j ih => rw [cntB_succ]; have := cB_is out z j; omega
theorem ImsB.snoc {out : ByteArray} {xs ys : List O} {c d : Int} {x y : O} (h : ImsB out xs ys c) (h2 : ImB out x y d) : ImsB out (xs ++ [x]) (ys ++ [y]) (c + d) := by
  induction h with
  | nil => rw [Int.add_comm]; exact .cons h2 .nil
  | cons h1 _ ih => rw [Int.add_assoc]; exact .cons h1 ih
theorem itB_im (out : ByteArray) (ho : out.size ≤ 100) (z : List Int) (i : Nat) : ImB out (itB z i) (yB out z i) (cB out z i) := by
  unfold yB cB
  by_cases h : onB out z i
  · rw [if_pos h, if_pos h]
    have e : itB z i = exeN (opN ((kB z i : Int) + 1)) := by unfold itB; rw [decide_eq_true h.1]
    rw [e]
    exact .bind _ (kB_lt z i) h.2
  · rw [if_neg h, if_neg h]
    by_cases h2 : z.getD i 0 < 200
    · have e : opN ((kB z i : Int) + 1) = out := Classical.byContradiction fun h3 => h ⟨h2, h3⟩
      have e2 : itB z i = exeN out := by unfold itB; rw [decide_eq_true h2, e]
      rw [e2]
      exact .out ho
    · exact .idle (by unfold itB; exact decide_eq_false h2)
theorem its_im (out : ByteArray) (ho : out.size ≤ 100) (z : List Int) (j : Nat) : ImsB out ((List.range j).map (itB z)) ((List.range j).map (yB out z)) (cntB out z j) := by
  induction j with
  | zero => exact .nil
  | succ j ih =>
    rw [List.range_succ, List.map_append, List.map_append, cntB_succ]
    exact ih.snoc (itB_im out ho z j)
/-- The second time nothing is bound. -/
theorem yB_im (out : ByteArray) (ho : out.size ≤ 100) (z : List Int) (i : Nat) : ImB out (yB out z i) (yB out z i) 0 := by
  unfold yB
  by_cases h : onB out z i
  · rw [if_pos h]; exact .op rfl (by show (7 : Int) ≠ 9; decide) (by show (7 : Int) ≠ 5; decide)
  · rw [if_neg h]
    have := itB_im out ho z i
    unfold yB cB at this
    rwa [if_neg h, if_neg h] at this
theorem ys_im (out : ByteArray) (ho : out.size ≤ 100) (z : List Int) (j : Nat) : ImsB out ((List.range j).map (yB out z)) ((List.range j).map (yB out z)) 0 := by
  induction j with
  | zero => exact .nil
  | succ j ih =>
    rw [List.range_succ, List.map_append]
    have := ih.snoc (yB_im out ho z j)
    rwa [Int.add_zero] at this
/-- The procedure within: pop. -/
abbrev bPop : ByteArray := ⟨#[112, 111, 112]⟩
theorem pop_at : (opT.map Prod.snd).any (fun l => l == [112, 111, 112]) = true := by decide +kernel
theorem pop_is : ∃ i : Nat, i < 162 ∧ opN ((i : Int) + 1) = bPop := by
  obtain ⟨l, hl, e⟩ := List.any_eq_true.1 pop_at
  obtain ⟨i, hi, rfl⟩ := List.getElem_of_mem hl
  refine ⟨i, by rw [List.length_map, opT_length] at hi; exact hi, ?_⟩
  rw [opN_nat, List.getD_eq_getElem?_getD, List.getElem?_eq_getElem hi]
  rw [beq_iff_eq] at e
  simp only [Option.getD_some, e]
end Go.Proofs.Ytpgkjgceldleaaa
