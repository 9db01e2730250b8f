/- Hts, Smr -/
import Derived.Test.YtpgkjgceldleaaaGreatZRefl
import Derived.Test.YtpgkjgceldleaaaGreatZRefm
import Derived.Test.YtpgkjgceldleaaaGreatZRefj
import Derived.Test.YtpgkjgceldleaaaGreatZRefi
import Derived.Test.YtpgkjgceldleaaaGreatZRefh
import Derived.Test.YtpgkjgceldleaaaGreatZHeapd
import Derived.Test.YtpgkjgceldleaaaGreatZHeapc
import Derived.Test.YtpgkjgceldleaaaGreatZChar
import Derived.BigQuiet
/- A heap and a reference's heap side by side: what each method of either leaves. -/
namespace Go.Proofs.YtpgkjgceldleaaaGreat
open Go.RowKit

/-- The heap at hp holds L, the reference's at gp holds Lr; other heaps: M, other boxes: K. -/
def TS (J0 : List (Nat × Obj)) (w0 : World) (hp gp : Nat) (M : List (Nat × List C)) (K : List (Nat × Obj)) (L Lr : List C) (W : World) : Prop := ∃ E, RefK J0 gp Lr E ∧ Ats w0 W ((hp, L) :: M) (E ++ K)
section
variable {J0 : List (Nat × Obj)} {w0 w w' : World} {hp gp : Nat} {M : List (Nat × List C)} {K : List (Nat × Obj)} {L Lr : List C}
theorem TS.pure (T : TS J0 w0 hp gp M K L Lr w) (X : Chg NoB w w') : TS J0 w0 hp gp M K L Lr w' := by
  obtain ⟨E, H, A⟩ := T; exact ⟨E, H, A.pure X⟩
theorem TS.drew (T : TS J0 w0 hp gp M K L Lr w) : TS J0 w0 hp gp M K L Lr w.drew := by
  obtain ⟨E, H, A⟩ := T; exact ⟨E, H, A.drew⟩
theorem TS.chg (T : TS J0 w0 hp gp M K L Lr w) : Chg NoB w0 w := by
  obtain ⟨E, H, A⟩ := T; exact A.chg
theorem TS.bounds (T : TS J0 w0 hp gp M K L Lr w) : Lr.length ≤ 2000 ∧ used Lr ≤ 40000 := by
  obtain ⟨E, H, A⟩ := T; exact H.bounds
theorem TS.box (T : TS J0 w0 hp gp M K L Lr w) (q : Nat × Obj) (hq : q ∈ K) : w.heap[q.1]? = some q.2 := by
  obtain ⟨E, H, A⟩ := T; exact A.box q (List.mem_append_right _ hq)
theorem TS.keep {K' : List (Nat × Obj)} (T : TS J0 w0 hp gp M K L Lr w) (h : K'.Sublist K) : TS J0 w0 hp gp M K' L Lr w := by
  obtain ⟨E, H, A⟩ := T; exact ⟨E, H, A.keep (List.Sublist.append_left h _)⟩
theorem TS.perm {K' : List (Nat × Obj)} (T : TS J0 w0 hp gp M K L Lr w) (h : K.Perm K') : TS J0 w0 hp gp M K' L Lr w := by
  obtain ⟨E, H, A⟩ := T; exact ⟨E, H, A.perm (h.append_left _)⟩
theorem TS.got (T : TS J0 w0 hp gp M K L Lr w) (X : Chg NoB w w') {b : Nat} {o : Obj} (hb : w'.heap[b]? = some o) (hn : w.heap.size ≤ b) : TS J0 w0 hp gp M ((b, o) :: K) L Lr w' := by
  obtain ⟨E, H, A⟩ := T; exact ⟨E, H, (A.got X hb hn).perm List.perm_middle.symm⟩
theorem TS.alloc (T : TS J0 w0 hp gp M K L Lr w) (o : Obj) : TS J0 w0 hp gp M ((w.heap.size, o) :: K) L Lr (w.alloc o) := by
  obtain ⟨E, H, A⟩ := T; exact ⟨E, H, (A.alloc o).perm List.perm_middle.symm⟩
theorem TS.put {b : Nat} {cs : Array Value} {T' : TypeId} {fz : Nat × Nat} (T : TS J0 w0 hp gp M ((b, .cells cs T' fz) :: K) L Lr w) (i : Nat) (v : Value) : TS J0 w0 hp gp M ((b, .cells (cs.setIfInBounds i v) T' fz) :: K) L Lr (w.setCell ⟨b, i, none⟩ v) := by
  obtain ⟨E, H, A⟩ := T; exact ⟨E, H, ((A.perm List.perm_middle).put i v).perm List.perm_middle.symm⟩
theorem TS.putO {b : Nat} {c0 c1 c2 c3 c4 c5 : Value} {T' : TypeId} (T : TS J0 w0 hp gp M ((b, .cells #[c0, c1, c2, c3, c4, c5] T') :: K) L Lr w) (kk : Int) (kx : Bool) (kn kp kl : Int) (ks : ByteArray) :
    TS J0 w0 hp gp M ((b, .cells #[.int .i64 kk, .bool kx, .int .i64 kn, .int .i64 kp, .int .i64 kl, .string ks] T') :: K) L Lr ((((((w.setCell ⟨b, 0, none⟩ (.int .i64 kk)).setCell ⟨b, 1, none⟩ (.bool kx)).setCell ⟨b, 2, none⟩ (.int .i64 kn)).setCell ⟨b, 3, none⟩ (.int .i64 kp)).setCell ⟨b, 4, none⟩ (.int .i64 kl)).setCell ⟨b, 5, none⟩ (.string ks)) := by
  obtain ⟨E, H, A⟩ := T; exact ⟨E, H, ((A.perm List.perm_middle).putO kk kx kn kp kl ks).perm List.perm_middle.symm⟩
/-- What leaves heaps and boxes alone. -/
theorem TS.ask {f : Nat} {args : Array Value} {r : Value} (T : TS J0 w0 hp gp M K L Lr w) (h : ∀ E, RefK J0 gp Lr E → Ats w0 w ((hp, L) :: M) (E ++ K) → Calls Tryz.prog f args w fun e w' => e = .returned r ∧ Ats w0 w' ((hp, L) :: M) (E ++ K)) :
    Calls Tryz.prog f args w fun e w' => e = .returned r ∧ TS J0 w0 hp gp M K L Lr w' := by
  obtain ⟨E, H, A⟩ := T; exact (h E H A).mono fun e w' ⟨h1, h2⟩ => ⟨h1, E, H, h2⟩
/-- What works on the heap. -/
theorem TS.doH {f : Nat} {args : Array Value} {r : Value} {L' : List C} (T : TS J0 w0 hp gp M K L Lr w) (h : ∀ K', Ats w0 w ((hp, L) :: M) K' → Calls Tryz.prog f args w fun e w' => e = .returned r ∧ Ats w0 w' ((hp, L') :: M) K') :
    Calls Tryz.prog f args w fun e w' => e = .returned r ∧ TS J0 w0 hp gp M K L' Lr w' := by
  obtain ⟨E, H, A⟩ := T; exact (h _ A).mono fun e w' ⟨h1, h2⟩ => ⟨h1, E, H, h2⟩
/-- What works on the reference's heap. -/
theorem TS.doR {f : Nat} {args : Array Value} {r : Value} {L' : List C} (T : TS J0 w0 hp gp M K L Lr w) (h : ∀ E, RefK J0 gp Lr E → Ats w0 w ((hp, L) :: M) (E ++ K) → Calls Tryz.prog f args w fun e w' => e = .returned r ∧ ∃ E', RefK J0 gp L' E' ∧ Ats w0 w' ((hp, L) :: M) (E' ++ K)) :
    Calls Tryz.prog f args w fun e w' => e = .returned r ∧ TS J0 w0 hp gp M K L L' w' := by
  obtain ⟨E, H, A⟩ := T; exact (h _ H A).mono fun e w' ⟨h1, E', h2, h3⟩ => ⟨h1, E', h2, h3⟩
theorem ts_array (n : Int) {L' : List C} {o : O} {e : Int} (hr : arrayH L n = (L', o, e)) (T : TS J0 w0 hp gp M K L Lr w) : Calls Tryz.prog 117 #[ptr hp, .int .i64 n] w fun r w' => r = .returned (.tuple #[o.val, .int .i64 e]) ∧ TS J0 w0 hp gp M K L' Lr w' := T.doH fun _ A => at_array A n hr
theorem ts_rarray (n : Int) {L' : List C} {o : O} {e : Int} (hr : arrayH Lr n = (L', o, e)) (T : TS J0 w0 hp gp M K L Lr w) : Calls Tryz.prog 126 #[ptr gp, .int .i64 n] w fun r w' => r = .returned (.tuple #[o.val, .int .i64 e]) ∧ TS J0 w0 hp gp M K L L' w' := T.doR fun _ H A => rarray_any H A n hr
theorem ts_string (s : ByteArray) {L' : List C} {o : O} {e : Int} (hr : stringH L s = (L', o, e)) (T : TS J0 w0 hp gp M K L Lr w) : Calls Tryz.prog 69 #[ptr hp, .string s] w fun r w' => r = .returned (.tuple #[o.val, .int .i64 e]) ∧ TS J0 w0 hp gp M K L' Lr w' := T.doH fun _ A => at_string A s hr
theorem ts_rstring (s : ByteArray) {L' : List C} {o : O} {e : Int} (hr : stringH Lr s = (L', o, e)) (T : TS J0 w0 hp gp M K L Lr w) : Calls Tryz.prog 129 #[ptr gp, .string s] w fun r w' => r = .returned (.tuple #[o.val, .int .i64 e]) ∧ TS J0 w0 hp gp M K L L' w' := T.doR fun _ H A => rstr_any H A s hr
theorem ts_dict (n : Int) {L' : List C} {o : O} {e : Int} (hr : dictH L n = (L', o, e)) (T : TS J0 w0 hp gp M K L Lr w) : Calls Tryz.prog 107 #[ptr hp, .int .i64 n] w fun r w' => r = .returned (.tuple #[o.val, .int .i64 e]) ∧ TS J0 w0 hp gp M K L' Lr w' := T.doH fun _ A => at_dict A n hr
theorem ts_rdict (n : Int) {L' : List C} {o : O} {e : Int} (hr : dictH Lr n = (L', o, e)) (T : TS J0 w0 hp gp M K L Lr w) : Calls Tryz.prog 60 #[ptr gp, .int .i64 n] w fun r w' => r = .returned (.tuple #[o.val, .int .i64 e]) ∧ TS J0 w0 hp gp M K L L' w' := T.doR fun _ H A => rdict_any H A n hr
theorem ts_set (o : O) (i : Int) (x : O) {L' : List C} {e : Int} (hr : setH L o i x = (L', e)) (T : TS J0 w0 hp gp M K L Lr w) : Calls Tryz.prog 77 #[ptr hp, o.val, .int .i64 i, x.val] w fun r w' => r = .returned (.int .i64 e) ∧ TS J0 w0 hp gp M K L' Lr w' := T.doH fun _ A => at_set A o i x hr
theorem ts_rset (o : O) (i : Int) (x : O) {L' : List C} {e : Int} (hr : setH Lr o i x = (L', e)) (T : TS J0 w0 hp gp M K L Lr w) : Calls Tryz.prog 115 #[ptr gp, o.val, .int .i64 i, x.val] w fun r w' => r = .returned (.int .i64 e) ∧ TS J0 w0 hp gp M K L L' w' := T.doR fun _ H A => rset_any H A o i x hr
theorem ts_lock (o : O) {L' : List C} {e : Int} (hr : lockH L o = (L', e)) (T : TS J0 w0 hp gp M K L Lr w) : Calls Tryz.prog 57 #[ptr hp, o.val] w fun r w' => r = .returned (.int .i64 e) ∧ TS J0 w0 hp gp M K L' Lr w' := T.doH fun _ A => at_lock A o hr
theorem ts_rlock (o : O) {L' : List C} {e : Int} (hr : lockH Lr o = (L', e)) (T : TS J0 w0 hp gp M K L Lr w) : Calls Tryz.prog 64 #[ptr gp, o.val] w fun r w' => r = .returned (.int .i64 e) ∧ TS J0 w0 hp gp M K L L' w' := T.doR fun _ H A => rlock_any H A o hr
theorem ts_may (o : O) {b : Bool} (hr : mayH L o = b) (T : TS J0 w0 hp gp M K L Lr w) : Calls Tryz.prog 75 #[ptr hp, o.val] w fun r w' => r = .returned (.bool b) ∧ TS J0 w0 hp gp M K L Lr w' := T.doH fun _ A => at_may A o hr (List.mem_cons_self ..)
theorem ts_rmay (o : O) {b : Bool} (hr : mayH Lr o = b) (T : TS J0 w0 hp gp M K L Lr w) : Calls Tryz.prog 78 #[ptr gp, o.val] w fun r w' => r = .returned (.bool b) ∧ TS J0 w0 hp gp M K L Lr w' := T.ask fun _ H A => rhmay_any H A (fun _q hq => List.mem_append_left _ hq) o hr
theorem ts_size (o : O) {n e : Int} (hr : sizeH L o = (n, e)) (T : TS J0 w0 hp gp M K L Lr w) : Calls Tryz.prog 105 #[ptr hp, o.val] w fun r w' => r = .returned (.tuple #[.int .i64 n, .int .i64 e]) ∧ TS J0 w0 hp gp M K L Lr w' := T.doH fun _ A => A.asks (List.mem_cons_self ..) fun h h1 h2 H => by subst h1 h2; have := hsize_any h o w H; rwa [hr] at this
theorem ts_rsize (o : O) {n e : Int} (hr : sizeH Lr o = (n, e)) (T : TS J0 w0 hp gp M K L Lr w) : Calls Tryz.prog 167 #[ptr gp, o.val] w fun r w' => r = .returned (.tuple #[.int .i64 n, .int .i64 e]) ∧ TS J0 w0 hp gp M K L Lr w' := T.ask fun _ H A => rsizeh_any H A (fun _q hq => List.mem_append_left _ hq) o hr
theorem ts_get (o : O) (i : Int) {o' : O} {e : Int} (hr : getH L o i = (o', e)) (T : TS J0 w0 hp gp M K L Lr w) : Calls Tryz.prog 48 #[ptr hp, o.val, .int .i64 i] w fun r w' => r = .returned (.tuple #[o'.val, .int .i64 e]) ∧ TS J0 w0 hp gp M K L Lr w' := T.doH fun _ A => at_get A o i hr
theorem ts_rget (o : O) (i : Int) {o' : O} {e : Int} (hr : getH Lr o i = (o', e)) (T : TS J0 w0 hp gp M K L Lr w) : Calls Tryz.prog 136 #[ptr gp, o.val, .int .i64 i] w fun r w' => r = .returned (.tuple #[o'.val, .int .i64 e]) ∧ TS J0 w0 hp gp M K L Lr w' := T.ask fun _ H A => rget_any H A (fun _q hq => List.mem_append_left _ hq) o i hr
theorem ts_bytes (o : O) {b : ByteArray} {e : Int} (hr : bytesH L o = (b, e)) (T : TS J0 w0 hp gp M K L Lr w) : Calls Tryz.prog 158 #[ptr hp, o.val] w fun r w' => r = .returned (.tuple #[.string b, .int .i64 e]) ∧ TS J0 w0 hp gp M K L Lr w' := T.doH fun _ A => at_bytes A o hr
theorem ts_rbytes (o : O) {b : ByteArray} {e : Int} (hr : bytesH Lr o = (b, e)) (T : TS J0 w0 hp gp M K L Lr w) : Calls Tryz.prog 190 #[ptr gp, o.val] w fun r w' => r = .returned (.tuple #[.string b, .int .i64 e]) ∧ TS J0 w0 hp gp M K L Lr w' := T.ask fun _ H A => rbytes_any H A (fun _q hq => List.mem_append_left _ hq) o hr
theorem ts_cells {n : Int} (hn : (L.length : Int) = n) (T : TS J0 w0 hp gp M K L Lr w) : Calls Tryz.prog 32 #[ptr hp] w fun r w' => r = .returned (.int .i64 n) ∧ TS J0 w0 hp gp M K L Lr w' := by
  subst hn
  exact T.doH fun _ A => (at_cells A).mono fun e w' ⟨h1, h2⟩ => ⟨h1, h2 ▸ A⟩
theorem ts_used {n : Int} (hn : (used L : Int) = n) (T : TS J0 w0 hp gp M K L Lr w) : Calls Tryz.prog 39 #[ptr hp] w fun r w' => r = .returned (.int .i64 n) ∧ TS J0 w0 hp gp M K L Lr w' := by
  subst hn
  exact T.doH fun _ A => (at_used A).mono fun e w' ⟨h1, h2⟩ => ⟨h1, h2 ▸ A⟩
theorem ts_rused {n : Int} (hn : (used Lr : Int) = n) (T : TS J0 w0 hp gp M K L Lr w) : Calls Tryz.prog 40 #[ptr gp] w fun r w' => r = .returned (.int .i64 n) ∧ TS J0 w0 hp gp M K L Lr w' := by
  subst hn
  exact T.ask fun _ H A => rused_any H A (fun q hq => List.mem_append_left _ hq)
/-- Items of the heap: the row that it makes. -/
theorem ts_items (o : O) {l : List O} {e : Int} (hr : itemsH L o = (l, e)) (T : TS J0 w0 hp gp M K L Lr w) : Calls Tryz.prog 76 #[ptr hp, o.val] w fun r w' => ∃ v, r = .returned (.tuple #[v, .int .i64 e]) ∧ ∃ R, RowG 38 6 R v l.length (l.flatMap O.cells) ∧ TS J0 w0 hp gp M (R ++ K) L Lr w' := by
  obtain ⟨E, H, A⟩ := T
  obtain ⟨h, e1, e2, HR⟩ := A.rep (List.mem_cons_self ..)
  subst e1 e2
  have hit := items_any h o w HR
  rw [hr] at hit
  refine hit.mono ?_
  rintro r w' ⟨v, h1, X, own⟩
  obtain ⟨R, hR, A'⟩ := A.ofOwns X own
  exact ⟨v, h1, R, hR, E, H, A'.perm (by
    classical refine List.perm_iff_count.2 fun q => ?_
    simp only [List.count_append]
    omega)⟩
theorem ts_ritems (o : O) {l : List O} {e : Int} (hr : itemsH Lr o = (l, e)) (T : TS J0 w0 hp gp M K L Lr w) : Calls Tryz.prog 143 #[ptr gp, o.val] w fun r w' => ∃ v, r = .returned (.tuple #[v, .int .i64 e]) ∧ ∃ R, RowG 38 6 R v l.length (l.flatMap O.cells) ∧ TS J0 w0 hp gp M (R ++ K) L Lr w' := by
  obtain ⟨E, H, A⟩ := T
  refine (ritems_any H A (fun q hq => List.mem_append_left _ hq) o hr).mono ?_
  rintro r w' ⟨v, h1, R, hR, A'⟩
  exact ⟨v, h1, R, hR, E, H, A'.perm (by
    classical refine List.perm_iff_count.2 fun q => ?_
    simp only [List.count_append]
    omega)⟩
/-- Where the reference's row of cells lies. -/
theorem TS.refRow (T : TS J0 w0 hp gp M K L Lr w) : ∃ lv c, (gp < w.heap.size ∧ ∀ i, w.cell? ⟨gp, i, none⟩ = #[(.slice lv Lr.length c : Value)][i]?) := by
  obtain ⟨E, H, A⟩ := T
  obtain ⟨lv, hb, hrow⟩ := H.parts
  rcases hrow with ⟨rfl, rfl⟩ | ⟨g, cap, cur, rfl, -⟩
  · exact ⟨none, 0, blk_lt (A.box _ (List.mem_append_left _ hb)), cells_of (A.box _ (List.mem_append_left _ hb))⟩
  · exact ⟨_, _, blk_lt (A.box _ (List.mem_append_left _ hb)), cells_of (A.box _ (List.mem_append_left _ hb))⟩
end
end Go.Proofs.YtpgkjgceldleaaaGreat
/- Walk: tympanhelp.Same of two rows of objects that are alike. -/
namespace Go.Proofs.YtpgkjgceldleaaaGreat
open Go.RowKit

/-- A slice of objects that w holds. -/
def RowOf (w : World) (v : Value) (n : Nat) (xs : List O) : Prop :=
  ∃ a c, v = .slice a n c ∧ n ≤ c ∧ (0 < n → ∃ g cur fz, a = some ⟨g, 0, none⟩ ∧ w.heap[g]? = some (.cells cur 38 fz) ∧ ∀ m o, xs[m]? = some o → ∀ j, j < 6 → cur[m * 6 + j]? = o.cells[j]?)
set_option maxRecDepth 100000 in
theorem same_rows (w : World) (va vb : Value) (n : Nat) (xs : List O) (hn : xs.length = n) (hn9 : n ≤ 100000) (ha : RowOf w va n xs) (hb : RowOf w vb n xs) :
    Calls Tryz.prog 17 #[va, vb] w fun e w' => e = .returned (.bool true) ∧ Chg NoB w w' := by
  obtain ⟨a, c, rfl, hac, hra⟩ := ha
  obtain ⟨b, d, rfl, hbd, hrb⟩ := hb
  have HRA := hid' hra
  have HRB := hid' hrb
  have HN := hid' hn
  clear hra hrb hn
  go_enter Tryz.func17, Tryz.ntmps17
  go_wp2_with fail
  go_loopw [5] (fun cv wr => ∃ k : Nat, k ≤ n ∧ cv = .int .i64 k ∧ Chg NoB w wr) (fun cv _ => n - (intOf cv).toNat)
  case atStart => exact ⟨0, Nat.zero_le _, rfl, Chg.refl _ _⟩
  case round =>
    obtain ⟨k, hk, rfl, X⟩ := hrel
    by_cases hlt : k < n
    · obtain ⟨g, cur, fz, rfl, hg, hc⟩ := HRA.out (by omega)
      obtain ⟨g', cur', fz', rfl, hg', hc'⟩ := HRB.out (by omega)
      have hkl : k < xs.length := by rw [HN.out]; exact hlt
      have ho : xs[k]? = some xs[k] := List.getElem?_eq_getElem hkl
      have Q := hc k _ ho
      have Q' := hc' k _ ho
      have R1 := cells_of (X.blk hg id)
      have R2 := cells_of (X.blk hg' id)
      have l1 := blk_lt (X.blk hg id)
      have l2 := blk_lt (X.blk hg' id)
      generalize xs[k] = o at *
      have qe : eqO o o = true := eqO_self _
      obtain ⟨kk, kx, kn, kp, kl, ks⟩ := o
      have q0 := Q 0 (by decide)
      have q1 := Q 1 (by decide)
      have q2 := Q 2 (by decide)
      have q3 := Q 3 (by decide)
      have q4 := Q 4 (by decide)
      have q5 := Q 5 (by decide)
      have p0 := Q' 0 (by decide)
      have p1 := Q' 1 (by decide)
      have p2 := Q' 2 (by decide)
      have p3 := Q' 3 (by decide)
      have p4 := Q' 4 (by decide)
      have p5 := Q' 5 (by decide)
      simp only [O.cells, List.getElem?_cons_zero, List.getElem?_cons_succ, Nat.add_zero] at q0 q1 q2 q3 q4 q5 p0 p1 p2 p3 p4 p5
      have vk := IntWalk.i64_in ((k : Int) + 1) (by omega)
      have dl : (k : Int) < n := by omega
      have dc : (n : Int) ≤ c := by omega
      have dd : (n : Int) ≤ d := by omega
      clear Q Q' hc hc' ho hg hg'
      go_wp2_with fail
      go_quiet (fail)
      go_wp2_with fail
      go_roundw
      case rel => exact ⟨k + 1, by omega, by go_num, X.drewN _⟩
      case measure => simp [intOf]; omega
    · obtain rfl : k = n := by omega
      go_wp2_with fail
      go_ret
      exact ⟨rfl, X⟩
end Go.Proofs.YtpgkjgceldleaaaGreat
