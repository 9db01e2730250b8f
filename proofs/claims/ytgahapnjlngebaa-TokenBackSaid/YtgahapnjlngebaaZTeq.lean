/- Walk: tympanhelp.Tokens; '==' of two words. -/
import Derived.Test.YtgahapnjlngebaaZTal
namespace Go.Proofs.Ytgahapnjlngebaa
open Go.RowKit

def eqT (a b : Tok) : Bool := decide (a = b)
theorem eqT_self (a : Tok) : eqT a a = true := by simp [eqT]
theorem bytes_eq' (s s' : ByteArray) : (s.toList == s'.toList) = decide (s = s') := by
  by_cases h : s = s'
  · subst h; simp
  · have : s.toList ≠ s'.toList := by
      intro e; rw [ByteArray.toList_eq, ByteArray.toList_eq] at e
      exact h (by cases s; cases s'; simp_all [Array.toList_inj])
    simp [h, this]
theorem Tok.ext_iff' (k k' n n' p p' : Int) (s s' : ByteArray) : ((⟨k, n, s, p⟩ : Tok) = ⟨k', n', s', p'⟩) ↔ (k = k' ∧ n = n' ∧ s = s' ∧ p = p') := by
  constructor
  · intro h; cases h; exact ⟨rfl, rfl, rfl, rfl⟩
  · rintro ⟨rfl, rfl, rfl, rfl⟩; rfl
theorem run_eqT (k k' n n' p p' : Int) (s s' : ByteArray) (w : World) :
    (Op.equalIn 10000 31 (.agg #[.int .i64 k, .int .i64 n, .string s, .int .i64 p]) (.agg #[.int .i64 k', .int .i64 n', .string s', .int .i64 p'])).run Try.prog w = .ok (eqT ⟨k, n, s, p⟩ ⟨k', n', s', p'⟩) w := by
  have e : (Op.equalIn 10000 31 (.agg #[.int .i64 k, .int .i64 n, .string s, .int .i64 p]) (.agg #[.int .i64 k', .int .i64 n', .string s', .int .i64 p'])).run Try.prog w = .ok ((k == k') && (n == n') && (s.toList == s'.toList) && (p == p')) w := by
    rw [run_equalIn_struct w 9999 31 _ _ (by kernel_rfl) (by kernel_rfl)]
    simp [go_sem, Op.eqFields]
    by_cases h1 : k = k' <;> by_cases h2 : n = n' <;> by_cases h3 : p = p' <;> by_cases h4 : s.toList = s'.toList <;> simp [*]
  rw [e, bytes_eq']
  unfold eqT
  refine congrArg (fun b => Result.ok b w) ?_
  simp only [Tok.ext_iff']
  by_cases h1 : k = k' <;> by_cases h2 : n = n' <;> by_cases h3 : p = p' <;> by_cases h4 : s = s' <;> simp [*]
@[go_sem high] theorem run_eqlT (k k' n n' p p' : Int) (s s' : ByteArray) (w : World) :
    (binOp .eql 31 (.agg #[.int .i64 k, .int .i64 n, .string s, .int .i64 p]) (.agg #[.int .i64 k', .int .i64 n', .string s', .int .i64 p'])).run Try.prog w = .ok (.bool (eqT ⟨k, n, s, p⟩ ⟨k', n', s', p'⟩)) w := by
  rw [run_eql_struct, run_eqT]; rfl
@[go_sem high] theorem run_neqT (k k' n n' p p' : Int) (s s' : ByteArray) (w : World) :
    (binOp .neq 31 (.agg #[.int .i64 k, .int .i64 n, .string s, .int .i64 p]) (.agg #[.int .i64 k', .int .i64 n', .string s', .int .i64 p'])).run Try.prog w = .ok (.bool (!eqT ⟨k, n, s, p⟩ ⟨k', n', s', p'⟩)) w := by
  rw [run_neq_struct, run_eqT]; rfl

/-- The cells of a word at a place. -/
def TokC (w : World) (b off : Nat) (t : Tok) : Prop := w.cell? ⟨b, off, none⟩ = some (.int .i64 t.kind) ∧ w.cell? ⟨b, off + 1, none⟩ = some (.int .i64 t.n) ∧ w.cell? ⟨b, off + 2, none⟩ = some (.string t.s) ∧ w.cell? ⟨b, off + 3, none⟩ = some (.int .i64 t.pos)
/-- A slice of words in memory. -/
def ToksAt (w : World) (v : Value) (l : List Tok) : Prop :=
  ∃ a cap, v = .slice a l.length cap ∧ l.length ≤ cap ∧ (0 < l.length → ∃ b off, a = some ⟨b, off, none⟩ ∧ b < w.heap.size ∧ ∀ (i : Nat) (t : Tok), l[i]? = some t → TokC w b (off + i * 4) t)
theorem cell_lt {w : World} {a : Addr} {v : Value} (h : w.cell? a = some v) : a.block < w.heap.size := by
  apply Classical.byContradiction
  intro hn
  have : w.heap[a.block]? = none := Array.getElem?_eq_none (by omega)
  simp [World.cell?, this] at h
theorem Chg.keeps {w w' : World} (h : Chg NoB w w') {a : Addr} {v : Value} (hv : w.cell? a = some v) : w'.cell? a = some v := by
  rw [h.below.cell (cell_lt hv)]; exact hv
theorem TokC.pure {w w' : World} {b off : Nat} {t : Tok} (h : TokC w b off t) (X : Chg NoB w w') : TokC w' b off t :=
  ⟨X.keeps h.1, X.keeps h.2.1, X.keeps h.2.2.1, X.keeps h.2.2.2⟩
theorem ToksAt.pure {w w' : World} {v : Value} {l : List Tok} (h : ToksAt w v l) (X : Chg NoB w w') : ToksAt w' v l := by
  obtain ⟨a, cap, h1, h2, h3⟩ := h
  refine ⟨a, cap, h1, h2, fun hl => ?_⟩
  obtain ⟨b, off, h4, h5, h6⟩ := h3 hl
  exact ⟨b, off, h4, Nat.lt_of_lt_of_le h5 X.size, fun i t ht => (h6 i t ht).pure X⟩
theorem toksV_get (l : List Tok) (i j : Nat) (t : Tok) (h : l[i]? = some t) (hj : j < 4) : (toksV l)[i * 4 + j]? = (Tok.cells t)[j]? := by
  unfold toksV
  induction l generalizing i with
  | nil => simp at h
  | cons x l ih =>
    cases i with
    | zero =>
      simp at h; subst h
      rw [List.flatMap_cons, List.getElem?_append_left (by simp [Tok.cells]; omega)]; simp
    | succ i =>
      rw [List.flatMap_cons, List.getElem?_append_right (by simp [Tok.cells]; omega)]
      have : (i + 1) * 4 + j - (Tok.cells x).length = i * 4 + j := by simp [Tok.cells]; omega
      rw [this]; exact ih i (by simpa using h)
theorem ToksAt.of_own {w : World} {B : Nat} {v : Value} {l : List Tok} (h : w.ownsRow B 31 4 v l.length (toksV l)) : ToksAt w v l := by
  rcases h.2 with ⟨rfl, h0⟩ | ⟨g, cap, cur, rfl, h1, h2, h3, h4, h5, h6⟩
  · exact ⟨none, 0, by rw [h0], by omega, fun h => by omega⟩
  · refine ⟨_, cap, rfl, h3, fun _ => ⟨g, 0, rfl, blk_lt h2, fun i t ht => ?_⟩⟩
    have hi : i < l.length := (List.getElem?_eq_some_iff.1 ht).1
    have key : ∀ j, j < 4 → w.cell? ⟨g, 0 + i * 4 + j, none⟩ = (Tok.cells t)[j]? := fun j hj => by
      rw [Nat.zero_add, cells_of h2, ← Array.getElem?_toList]
      have : cur.toList[i * 4 + j]? = (cur.toList.take (l.length * 4))[i * 4 + j]? := by rw [List.getElem?_take, if_pos (by omega)]
      rw [this, h6, toksV_get l i j t ht hj]
    exact ⟨key 0 (by decide), key 1 (by decide), key 2 (by decide), key 3 (by decide)⟩
/-- Two lists of words that are alike. -/
def Alike (pl : Bool) (l m : List Tok) : Prop := l.length = m.length ∧ ∀ (i : Nat) (x y : Tok), l[i]? = some x → m[i]? = some y → x.kind = y.kind ∧ x.n = y.n ∧ x.s = y.s ∧ (pl = true → x.pos = y.pos)
theorem Alike.refl (pl : Bool) (l : List Tok) : Alike pl l l := ⟨rfl, fun i x y h1 h2 => by rw [h1] at h2; injection h2 with h2; subst h2; exact ⟨rfl, rfl, rfl, fun _ => rfl⟩⟩

set_option maxRecDepth 100000 in
set_option maxHeartbeats 2000000 in
theorem tokens_any {w : World} {v u : Value} {l m : List Tok} (hl : l.length ≤ 100000) (hv : ToksAt w v l) (hu : ToksAt w u m) (pl : Bool) (h : Alike pl l m) :
    Calls Try.prog 10 #[v, u, .bool pl] w fun r w' => r = .returned (.bool true) ∧ Chg NoB w w' := by
  obtain ⟨a, c, rfl, hc, hv⟩ := hv
  obtain ⟨a', c', rfl, hc', hu⟩ := hu
  obtain ⟨hlen, hal⟩ := h
  have HLN := hid' hlen
  rw [← hlen] at hu hc' ⊢
  clear hlen
  have HAL := hid' hal
  have HV := hid' hv
  have HU := hid' hu
  clear hal hv hu
  have hln : (l.length : Int) ≤ 100000 := by omega
  by_cases h0 : l.length = 0
  · have h0' : (l.length : Int) ≤ 0 := by omega
    go_enter Try.func10, Try.ntmps10
    go_wp2_with fail
    go_loopw [7] (fun iv wr => iv = .int .i64 0 ∧ Chg NoB w wr) (fun iv _ => 1 - (intOf iv).toNat)
    case atStart => exact ⟨rfl, Chg.refl _ _⟩
    case round =>
      obtain ⟨rfl, X⟩ := hrel
      go_wp2_with fail
      go_ret
      exact ⟨rfl, X⟩
  obtain ⟨b, off, rfl, hb, hv⟩ := HV.out (by omega)
  obtain ⟨b', off', rfl, hb', hu⟩ := HU.out (by omega)
  have HV2 := hid' hv
  have HU2 := hid' hu
  clear hv hu HV HU h0
  go_enter Try.func10, Try.ntmps10
  go_wp2_with fail
  go_loopw [7] (fun iv wr => ∃ i : Nat, i ≤ l.length ∧ iv = .int .i64 i ∧ Chg NoB w wr) (fun iv _ => l.length - (intOf iv).toNat)
  case atStart => exact ⟨0, Nat.zero_le _, rfl, Chg.refl _ _⟩
  case round =>
    obtain ⟨i, hi, rfl, X⟩ := hrel
    by_cases hlt : i < l.length
    rotate_left
    · obtain rfl : i = l.length := by omega
      go_wp2_with fail
      go_ret
      exact ⟨rfl, X⟩
    have hlt' : (i : Int) < l.length := by omega
    have h0i : (0 : Int) ≤ i := by omega
    obtain ⟨x, hx⟩ : ∃ x, l[i]? = some x := ⟨l[i], List.getElem?_eq_getElem hlt⟩
    obtain ⟨y, hy⟩ : ∃ y, m[i]? = some y := ⟨m[i]'(by rw [← HLN.out]; exact hlt), List.getElem?_eq_getElem _⟩
    obtain ⟨q1, q2, q3, q4⟩ := HAL.out i x y hx hy
    obtain ⟨c1, c2, c3, c4⟩ := (HV2.out i x hx).pure X
    obtain ⟨d1, d2, d3, d4⟩ := (HU2.out i y hy).pure X
    obtain ⟨xk, xn, xs, xp⟩ := x
    obtain ⟨yk, yn, ys, yp⟩ := y
    simp only at q1 q2 q3 q4 c1 c2 c3 c4 d1 d2 d3 d4
    subst q1 q2 q3
    have e3 : (xs.toList != xs.toList) = false := by simp
    have bl : b < wr.heap.size := Nat.lt_of_lt_of_le hb X.size
    have bl' : b' < wr.heap.size := Nat.lt_of_lt_of_le hb' X.size
    clear hx hy
    cases pl with
    | true =>
      obtain rfl := q4 rfl
      clear q4
      go_wp2_with fail
      go_quiet (fail)
      go_wp2_with fail
      go_roundw
      case rel => exact ⟨i + 1, by omega, by go_num, X.drewN _⟩
      case measure => simp [intOf]; omega
    | false =>
      clear q4
      go_wp2_with fail
      go_quiet (fail)
      go_wp2_with fail
      go_roundw
      case rel => exact ⟨i + 1, by omega, by go_num, X.drewN _⟩
      case measure => simp [intOf]; omega
end Go.Proofs.Ytgahapnjlngebaa
