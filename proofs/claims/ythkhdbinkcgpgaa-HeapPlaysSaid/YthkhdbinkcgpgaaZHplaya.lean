/- Hts, Smr, Hpk, Hsm -/
import Derived.Test.YthkhdbinkcgpgaaZRefl
import Derived.Test.YthkhdbinkcgpgaaZRefm
import Derived.Test.YthkhdbinkcgpgaaZRefj
import Derived.Test.YthkhdbinkcgpgaaZRefi
import Derived.Test.YthkhdbinkcgpgaaZRefh
import Derived.Test.YthkhdbinkcgpgaaZHeapd
import Derived.Test.YthkhdbinkcgpgaaZHeapc
import Derived.Test.YthkhdbinkcgpgaaZChar
import Derived.BigQuiet
/- A heap and a reference's heap side by side: what each method of either leaves. -/
namespace Go.Proofs.Ythkhdbinkcgpgaa
open Go.RowKit

/-- The heap at hp holds L, the reference's at gp holds Lr; other heaps: M, other boxes: K. -/
def TS (J0 : List (Nat × Obj)) (w0 : World) (hp gp : Nat) (M : List (Nat × List C)) (K : List (Nat × Obj)) (L Lr : List C) (W : World) : Prop := ∃ E, RefK J0 gp Lr E ∧ Ats w0 W ((hp, L) :: M) (E ++ K)
section
variable {J0 : List (Nat × Obj)} {w0 w w' : World} {hp gp : Nat} {M : List (Nat × List C)} {K : List (Nat × Obj)} {L Lr : List C}
theorem TS.pure (T : TS J0 w0 hp gp M K L Lr w) (X : Chg NoB w w') : TS J0 w0 hp gp M K L Lr w' := by
  obtain ⟨E, H, A⟩ := T; exact ⟨E, H, A.pure X⟩
theorem TS.drew (T : TS J0 w0 hp gp M K L Lr w) : TS J0 w0 hp gp M K L Lr w.drew := by
  obtain ⟨E, H, A⟩ := T; exact ⟨E, H, A.drew⟩
theorem TS.chg (T : TS J0 w0 hp gp M K L Lr w) : Chg NoB w0 w := by
  obtain ⟨E, H, A⟩ := T; exact A.chg
theorem TS.bounds (T : TS J0 w0 hp gp M K L Lr w) : Lr.length ≤ 2000 ∧ used Lr ≤ 40000 := by
  obtain ⟨E, H, A⟩ := T; exact H.bounds
theorem TS.box (T : TS J0 w0 hp gp M K L Lr w) (q : Nat × Obj) (hq : q ∈ K) : w.heap[q.1]? = some q.2 := by
  obtain ⟨E, H, A⟩ := T; exact A.box q (List.mem_append_right _ hq)
theorem TS.keep {K' : List (Nat × Obj)} (T : TS J0 w0 hp gp M K L Lr w) (h : K'.Sublist K) : TS J0 w0 hp gp M K' L Lr w := by
  obtain ⟨E, H, A⟩ := T; exact ⟨E, H, A.keep (List.Sublist.append_left h _)⟩
theorem TS.perm {K' : List (Nat × Obj)} (T : TS J0 w0 hp gp M K L Lr w) (h : K.Perm K') : TS J0 w0 hp gp M K' L Lr w := by
  obtain ⟨E, H, A⟩ := T; exact ⟨E, H, A.perm (h.append_left _)⟩
theorem TS.got (T : TS J0 w0 hp gp M K L Lr w) (X : Chg NoB w w') {b : Nat} {o : Obj} (hb : w'.heap[b]? = some o) (hn : w.heap.size ≤ b) : TS J0 w0 hp gp M ((b, o) :: K) L Lr w' := by
  obtain ⟨E, H, A⟩ := T; exact ⟨E, H, (A.got X hb hn).perm List.perm_middle.symm⟩
theorem TS.alloc (T : TS J0 w0 hp gp M K L Lr w) (o : Obj) : TS J0 w0 hp gp M ((w.heap.size, o) :: K) L Lr (w.alloc o) := by
  obtain ⟨E, H, A⟩ := T; exact ⟨E, H, (A.alloc o).perm List.perm_middle.symm⟩
theorem TS.put {b : Nat} {cs : Array Value} {T' : TypeId} {fz : Nat × Nat} (T : TS J0 w0 hp gp M ((b, .cells cs T' fz) :: K) L Lr w) (i : Nat) (v : Value) : TS J0 w0 hp gp M ((b, .cells (cs.setIfInBounds i v) T' fz) :: K) L Lr (w.setCell ⟨b, i, none⟩ v) := by
  obtain ⟨E, H, A⟩ := T; exact ⟨E, H, ((A.perm List.perm_middle).put i v).perm List.perm_middle.symm⟩
theorem TS.putO {b : Nat} {c0 c1 c2 c3 c4 c5 : Value} {T' : TypeId} (T : TS J0 w0 hp gp M ((b, .cells #[c0, c1, c2, c3, c4, c5] T') :: K) L Lr w) (kk : Int) (kx : Bool) (kn kp kl : Int) (ks : ByteArray) :
    TS J0 w0 hp gp M ((b, .cells #[.int .i64 kk, .bool kx, .int .i64 kn, .int .i64 kp, .int .i64 kl, .string ks] T') :: K) L Lr ((((((w.setCell ⟨b, 0, none⟩ (.int .i64 kk)).setCell ⟨b, 1, none⟩ (.bool kx)).setCell ⟨b, 2, none⟩ (.int .i64 kn)).setCell ⟨b, 3, none⟩ (.int .i64 kp)).setCell ⟨b, 4, none⟩ (.int .i64 kl)).setCell ⟨b, 5, none⟩ (.string ks)) := by
  obtain ⟨E, H, A⟩ := T; exact ⟨E, H, ((A.perm List.perm_middle).putO kk kx kn kp kl ks).perm List.perm_middle.symm⟩
/-- What leaves heaps and boxes alone. -/
theorem TS.ask {f : Nat} {args : Array Value} {r : Value} (T : TS J0 w0 hp gp M K L Lr w) (h : ∀ E, RefK J0 gp Lr E → Ats w0 w ((hp, L) :: M) (E ++ K) → Calls Try.prog f args w fun e w' => e = .returned r ∧ Ats w0 w' ((hp, L) :: M) (E ++ K)) :
    Calls Try.prog f args w fun e w' => e = .returned r ∧ TS J0 w0 hp gp M K L Lr w' := by
  obtain ⟨E, H, A⟩ := T; exact (h E H A).mono fun e w' ⟨h1, h2⟩ => ⟨h1, E, H, h2⟩
/-- What works on the heap. -/
theorem TS.doH {f : Nat} {args : Array Value} {r : Value} {L' : List C} (T : TS J0 w0 hp gp M K L Lr w) (h : ∀ K', Ats w0 w ((hp, L) :: M) K' → Calls Try.prog f args w fun e w' => e = .returned r ∧ Ats w0 w' ((hp, L') :: M) K') :
    Calls Try.prog f args w fun e w' => e = .returned r ∧ TS J0 w0 hp gp M K L' Lr w' := by
  obtain ⟨E, H, A⟩ := T; exact (h _ A).mono fun e w' ⟨h1, h2⟩ => ⟨h1, E, H, h2⟩
/-- What works on the reference's heap. -/
theorem TS.doR {f : Nat} {args : Array Value} {r : Value} {L' : List C} (T : TS J0 w0 hp gp M K L Lr w) (h : ∀ E, RefK J0 gp Lr E → Ats w0 w ((hp, L) :: M) (E ++ K) → Calls Try.prog f args w fun e w' => e = .returned r ∧ ∃ E', RefK J0 gp L' E' ∧ Ats w0 w' ((hp, L) :: M) (E' ++ K)) :
    Calls Try.prog f args w fun e w' => e = .returned r ∧ TS J0 w0 hp gp M K L L' w' := by
  obtain ⟨E, H, A⟩ := T; exact (h _ H A).mono fun e w' ⟨h1, E', h2, h3⟩ => ⟨h1, E', h2, h3⟩
theorem ts_array (n : Int) {L' : List C} {o : O} {e : Int} (hr : arrayH L n = (L', o, e)) (T : TS J0 w0 hp gp M K L Lr w) : Calls Try.prog 40 #[ptr hp, .int .i64 n] w fun r w' => r = .returned (.tuple #[o.val, .int .i64 e]) ∧ TS J0 w0 hp gp M K L' Lr w' := T.doH fun _ A => at_array A n hr
theorem ts_rarray (n : Int) {L' : List C} {o : O} {e : Int} (hr : arrayH Lr n = (L', o, e)) (T : TS J0 w0 hp gp M K L Lr w) : Calls Try.prog 43 #[ptr gp, .int .i64 n] w fun r w' => r = .returned (.tuple #[o.val, .int .i64 e]) ∧ TS J0 w0 hp gp M K L L' w' := T.doR fun _ H A => rarray_any H A n hr
theorem ts_string (s : ByteArray) {L' : List C} {o : O} {e : Int} (hr : stringH L s = (L', o, e)) (T : TS J0 w0 hp gp M K L Lr w) : Calls Try.prog 44 #[ptr hp, .string s] w fun r w' => r = .returned (.tuple #[o.val, .int .i64 e]) ∧ TS J0 w0 hp gp M K L' Lr w' := T.doH fun _ A => at_string A s hr
theorem ts_rstring (s : ByteArray) {L' : List C} {o : O} {e : Int} (hr : stringH Lr s = (L', o, e)) (T : TS J0 w0 hp gp M K L Lr w) : Calls Try.prog 45 #[ptr gp, .string s] w fun r w' => r = .returned (.tuple #[o.val, .int .i64 e]) ∧ TS J0 w0 hp gp M K L L' w' := T.doR fun _ H A => rstr_any H A s hr
theorem ts_dict (n : Int) {L' : List C} {o : O} {e : Int} (hr : dictH L n = (L', o, e)) (T : TS J0 w0 hp gp M K L Lr w) : Calls Try.prog 46 #[ptr hp, .int .i64 n] w fun r w' => r = .returned (.tuple #[o.val, .int .i64 e]) ∧ TS J0 w0 hp gp M K L' Lr w' := T.doH fun _ A => at_dict A n hr
theorem ts_rdict (n : Int) {L' : List C} {o : O} {e : Int} (hr : dictH Lr n = (L', o, e)) (T : TS J0 w0 hp gp M K L Lr w) : Calls Try.prog 25 #[ptr gp, .int .i64 n] w fun r w' => r = .returned (.tuple #[o.val, .int .i64 e]) ∧ TS J0 w0 hp gp M K L L' w' := T.doR fun _ H A => rdict_any H A n hr
theorem ts_part (o : O) (i n : Int) {o' : O} {e : Int} (hr : partH L o i n = (o', e)) (T : TS J0 w0 hp gp M K L Lr w) : Calls Try.prog 41 #[ptr hp, o.val, .int .i64 i, .int .i64 n] w fun r w' => r = .returned (.tuple #[o'.val, .int .i64 e]) ∧ TS J0 w0 hp gp M K L Lr w' := T.doH fun _ A => at_part A o i n hr
theorem ts_rpart (o : O) (i n : Int) {o' : O} {e : Int} (hr : partH Lr o i n = (o', e)) (T : TS J0 w0 hp gp M K L Lr w) : Calls Try.prog 47 #[ptr gp, o.val, .int .i64 i, .int .i64 n] w fun r w' => r = .returned (.tuple #[o'.val, .int .i64 e]) ∧ TS J0 w0 hp gp M K L Lr w' := T.ask fun _ H A => rpart_any H A (fun _q hq => List.mem_append_left _ hq) o i n hr
theorem ts_set (o : O) (i : Int) (x : O) {L' : List C} {e : Int} (hr : setH L o i x = (L', e)) (T : TS J0 w0 hp gp M K L Lr w) : Calls Try.prog 11 #[ptr hp, o.val, .int .i64 i, x.val] w fun r w' => r = .returned (.int .i64 e) ∧ TS J0 w0 hp gp M K L' Lr w' := T.doH fun _ A => at_set A o i x hr
theorem ts_rset (o : O) (i : Int) (x : O) {L' : List C} {e : Int} (hr : setH Lr o i x = (L', e)) (T : TS J0 w0 hp gp M K L Lr w) : Calls Try.prog 12 #[ptr gp, o.val, .int .i64 i, x.val] w fun r w' => r = .returned (.int .i64 e) ∧ TS J0 w0 hp gp M K L L' w' := T.doR fun _ H A => rset_any H A o i x hr
theorem ts_put (o : O) (i : Int) (x : O) {L' : List C} {e : Int} (hr : putH L o i x = (L', e)) (T : TS J0 w0 hp gp M K L Lr w) : Calls Try.prog 13 #[ptr hp, o.val, .int .i64 i, x.val] w fun r w' => r = .returned (.int .i64 e) ∧ TS J0 w0 hp gp M K L' Lr w' := T.doH fun _ A => at_put A o i x hr
theorem ts_rput (o : O) (i : Int) (x : O) {L' : List C} {e : Int} (hr : putH Lr o i x = (L', e)) (T : TS J0 w0 hp gp M K L Lr w) : Calls Try.prog 14 #[ptr gp, o.val, .int .i64 i, x.val] w fun r w' => r = .returned (.int .i64 e) ∧ TS J0 w0 hp gp M K L L' w' := T.doR fun _ H A => rput_any H A o i x hr
theorem ts_lock (o : O) {L' : List C} {e : Int} (hr : lockH L o = (L', e)) (T : TS J0 w0 hp gp M K L Lr w) : Calls Try.prog 15 #[ptr hp, o.val] w fun r w' => r = .returned (.int .i64 e) ∧ TS J0 w0 hp gp M K L' Lr w' := T.doH fun _ A => at_lock A o hr
theorem ts_rlock (o : O) {L' : List C} {e : Int} (hr : lockH Lr o = (L', e)) (T : TS J0 w0 hp gp M K L Lr w) : Calls Try.prog 16 #[ptr gp, o.val] w fun r w' => r = .returned (.int .i64 e) ∧ TS J0 w0 hp gp M K L L' w' := T.doR fun _ H A => rlock_any H A o hr
theorem ts_may (o : O) {b : Bool} (hr : mayH L o = b) (T : TS J0 w0 hp gp M K L Lr w) : Calls Try.prog 50 #[ptr hp, o.val] w fun r w' => r = .returned (.bool b) ∧ TS J0 w0 hp gp M K L Lr w' := T.doH fun _ A => at_may A o hr (List.mem_cons_self ..)
theorem ts_rmay (o : O) {b : Bool} (hr : mayH Lr o = b) (T : TS J0 w0 hp gp M K L Lr w) : Calls Try.prog 52 #[ptr gp, o.val] w fun r w' => r = .returned (.bool b) ∧ TS J0 w0 hp gp M K L Lr w' := T.ask fun _ H A => rhmay_any H A (fun _q hq => List.mem_append_left _ hq) o hr
theorem ts_size (o : O) {n e : Int} (hr : sizeH L o = (n, e)) (T : TS J0 w0 hp gp M K L Lr w) : Calls Try.prog 55 #[ptr hp, o.val] w fun r w' => r = .returned (.tuple #[.int .i64 n, .int .i64 e]) ∧ TS J0 w0 hp gp M K L Lr w' := T.doH fun _ A => A.asks (List.mem_cons_self ..) fun h h1 h2 H => by subst h1 h2; have := hsize_any h o w H; rwa [hr] at this
theorem ts_rsize (o : O) {n e : Int} (hr : sizeH Lr o = (n, e)) (T : TS J0 w0 hp gp M K L Lr w) : Calls Try.prog 56 #[ptr gp, o.val] w fun r w' => r = .returned (.tuple #[.int .i64 n, .int .i64 e]) ∧ TS J0 w0 hp gp M K L Lr w' := T.ask fun _ H A => rsizeh_any H A (fun _q hq => List.mem_append_left _ hq) o hr
theorem ts_get (o : O) (i : Int) {o' : O} {e : Int} (hr : getH L o i = (o', e)) (T : TS J0 w0 hp gp M K L Lr w) : Calls Try.prog 42 #[ptr hp, o.val, .int .i64 i] w fun r w' => r = .returned (.tuple #[o'.val, .int .i64 e]) ∧ TS J0 w0 hp gp M K L Lr w' := T.doH fun _ A => at_get A o i hr
theorem ts_rget (o : O) (i : Int) {o' : O} {e : Int} (hr : getH Lr o i = (o', e)) (T : TS J0 w0 hp gp M K L Lr w) : Calls Try.prog 61 #[ptr gp, o.val, .int .i64 i] w fun r w' => r = .returned (.tuple #[o'.val, .int .i64 e]) ∧ TS J0 w0 hp gp M K L Lr w' := T.ask fun _ H A => rget_any H A (fun _q hq => List.mem_append_left _ hq) o i hr
theorem ts_bytes (o : O) {b : ByteArray} {e : Int} (hr : bytesH L o = (b, e)) (T : TS J0 w0 hp gp M K L Lr w) : Calls Try.prog 59 #[ptr hp, o.val] w fun r w' => r = .returned (.tuple #[.string b, .int .i64 e]) ∧ TS J0 w0 hp gp M K L Lr w' := T.doH fun _ A => at_bytes A o hr
theorem ts_rbytes (o : O) {b : ByteArray} {e : Int} (hr : bytesH Lr o = (b, e)) (T : TS J0 w0 hp gp M K L Lr w) : Calls Try.prog 60 #[ptr gp, o.val] w fun r w' => r = .returned (.tuple #[.string b, .int .i64 e]) ∧ TS J0 w0 hp gp M K L Lr w' := T.ask fun _ H A => rbytes_any H A (fun _q hq => List.mem_append_left _ hq) o hr
theorem ts_cells {n : Int} (hn : (L.length : Int) = n) (T : TS J0 w0 hp gp M K L Lr w) : Calls Try.prog 20 #[ptr hp] w fun r w' => r = .returned (.int .i64 n) ∧ TS J0 w0 hp gp M K L Lr w' := by
  subst hn
  exact T.doH fun _ A => (at_cells A).mono fun e w' ⟨h1, h2⟩ => ⟨h1, h2 ▸ A⟩
theorem ts_used {n : Int} (hn : (used L : Int) = n) (T : TS J0 w0 hp gp M K L Lr w) : Calls Try.prog 21 #[ptr hp] w fun r w' => r = .returned (.int .i64 n) ∧ TS J0 w0 hp gp M K L Lr w' := by
  subst hn
  exact T.doH fun _ A => (at_used A).mono fun e w' ⟨h1, h2⟩ => ⟨h1, h2 ▸ A⟩
theorem ts_rused {n : Int} (hn : (used Lr : Int) = n) (T : TS J0 w0 hp gp M K L Lr w) : Calls Try.prog 22 #[ptr gp] w fun r w' => r = .returned (.int .i64 n) ∧ TS J0 w0 hp gp M K L Lr w' := by
  subst hn
  exact T.ask fun _ H A => rused_any H A (fun q hq => List.mem_append_left _ hq)
/-- Items of the heap: the row that it makes. -/
theorem ts_items (o : O) {l : List O} {e : Int} (hr : itemsH L o = (l, e)) (T : TS J0 w0 hp gp M K L Lr w) : Calls Try.prog 57 #[ptr hp, o.val] w fun r w' => ∃ v, r = .returned (.tuple #[v, .int .i64 e]) ∧ ∃ R, RowG 24 6 R v l.length (l.flatMap O.cells) ∧ TS J0 w0 hp gp M (R ++ K) L Lr w' := by
  obtain ⟨E, H, A⟩ := T
  obtain ⟨h, e1, e2, HR⟩ := A.rep (List.mem_cons_self ..)
  subst e1 e2
  have hit := items_any h o w HR
  rw [hr] at hit
  refine hit.mono ?_
  rintro r w' ⟨v, h1, X, own⟩
  obtain ⟨R, hR, A'⟩ := A.ofOwns X own
  exact ⟨v, h1, R, hR, E, H, A'.perm (by
    classical refine List.perm_iff_count.2 fun q => ?_
    simp only [List.count_append]
    omega)⟩
theorem ts_ritems (o : O) {l : List O} {e : Int} (hr : itemsH Lr o = (l, e)) (T : TS J0 w0 hp gp M K L Lr w) : Calls Try.prog 58 #[ptr gp, o.val] w fun r w' => ∃ v, r = .returned (.tuple #[v, .int .i64 e]) ∧ ∃ R, RowG 24 6 R v l.length (l.flatMap O.cells) ∧ TS J0 w0 hp gp M (R ++ K) L Lr w' := by
  obtain ⟨E, H, A⟩ := T
  refine (ritems_any H A (fun q hq => List.mem_append_left _ hq) o hr).mono ?_
  rintro r w' ⟨v, h1, R, hR, A'⟩
  exact ⟨v, h1, R, hR, E, H, A'.perm (by
    classical refine List.perm_iff_count.2 fun q => ?_
    simp only [List.count_append]
    omega)⟩
/-- Where the reference's row of cells lies. -/
theorem TS.refRow (T : TS J0 w0 hp gp M K L Lr w) : ∃ lv c, (gp < w.heap.size ∧ ∀ i, w.cell? ⟨gp, i, none⟩ = #[(.slice lv Lr.length c : Value)][i]?) := by
  obtain ⟨E, H, A⟩ := T
  obtain ⟨lv, hb, hrow⟩ := H.parts
  rcases hrow with ⟨rfl, rfl⟩ | ⟨g, cap, cur, rfl, -⟩
  · exact ⟨none, 0, blk_lt (A.box _ (List.mem_append_left _ hb)), cells_of (A.box _ (List.mem_append_left _ hb))⟩
  · exact ⟨_, _, blk_lt (A.box _ (List.mem_append_left _ hb)), cells_of (A.box _ (List.mem_append_left _ hb))⟩
end
end Go.Proofs.Ythkhdbinkcgpgaa
/- Walk: tympanhelp.Same of two rows of objects that are alike. -/
namespace Go.Proofs.Ythkhdbinkcgpgaa
open Go.RowKit

/-- A slice of objects that w holds. -/
def RowOf (w : World) (v : Value) (n : Nat) (xs : List O) : Prop :=
  ∃ a c, v = .slice a n c ∧ n ≤ c ∧ (0 < n → ∃ g cur fz, a = some ⟨g, 0, none⟩ ∧ w.heap[g]? = some (.cells cur 24 fz) ∧ ∀ m o, xs[m]? = some o → ∀ j, j < 6 → cur[m * 6 + j]? = o.cells[j]?)
set_option maxRecDepth 100000 in
theorem same_rows (w : World) (va vb : Value) (n : Nat) (xs : List O) (hn : xs.length = n) (hn9 : n ≤ 100000) (ha : RowOf w va n xs) (hb : RowOf w vb n xs) :
    Calls Try.prog 39 #[va, vb] w fun e w' => e = .returned (.bool true) ∧ Chg NoB w w' := by
  obtain ⟨a, c, rfl, hac, hra⟩ := ha
  obtain ⟨b, d, rfl, hbd, hrb⟩ := hb
  have HRA := hid' hra
  have HRB := hid' hrb
  have HN := hid' hn
  clear hra hrb hn
  go_enter Try.func39, Try.ntmps39
  go_wp2_with fail
  go_loopw [5] (fun cv wr => ∃ k : Nat, k ≤ n ∧ cv = .int .i64 k ∧ Chg NoB w wr) (fun cv _ => n - (intOf cv).toNat)
  case atStart => exact ⟨0, Nat.zero_le _, rfl, Chg.refl _ _⟩
  case round =>
    obtain ⟨k, hk, rfl, X⟩ := hrel
    by_cases hlt : k < n
    · obtain ⟨g, cur, fz, rfl, hg, hc⟩ := HRA.out (by omega)
      obtain ⟨g', cur', fz', rfl, hg', hc'⟩ := HRB.out (by omega)
      have hkl : k < xs.length := by rw [HN.out]; exact hlt
      have ho : xs[k]? = some xs[k] := List.getElem?_eq_getElem hkl
      have Q := hc k _ ho
      have Q' := hc' k _ ho
      have R1 := cells_of (X.blk hg id)
      have R2 := cells_of (X.blk hg' id)
      have l1 := blk_lt (X.blk hg id)
      have l2 := blk_lt (X.blk hg' id)
      generalize xs[k] = o at *
      have qe : eqO o o = true := eqO_self _
      obtain ⟨kk, kx, kn, kp, kl, ks⟩ := o
      have q0 := Q 0 (by decide)
      have q1 := Q 1 (by decide)
      have q2 := Q 2 (by decide)
      have q3 := Q 3 (by decide)
      have q4 := Q 4 (by decide)
      have q5 := Q 5 (by decide)
      have p0 := Q' 0 (by decide)
      have p1 := Q' 1 (by decide)
      have p2 := Q' 2 (by decide)
      have p3 := Q' 3 (by decide)
      have p4 := Q' 4 (by decide)
      have p5 := Q' 5 (by decide)
      simp only [O.cells, List.getElem?_cons_zero, List.getElem?_cons_succ, Nat.add_zero] at q0 q1 q2 q3 q4 q5 p0 p1 p2 p3 p4 p5
      have vk := IntWalk.i64_in ((k : Int) + 1) (by omega)
      have dl : (k : Int) < n := by omega
      have dc : (n : Int) ≤ c := by omega
      have dd : (n : Int) ≤ d := by omega
      clear Q Q' hc hc' ho hg hg'
      go_wp2_with fail
      go_quiet (fail)
      go_wp2_with fail
      go_roundw
      case rel => exact ⟨k + 1, by omega, by go_num, X.drewN _⟩
      case measure => simp [intOf]; omega
    · obtain rfl : k = n := by omega
      go_wp2_with fail
      go_ret
      exact ⟨rfl, X⟩
end Go.Proofs.Ythkhdbinkcgpgaa
/- tympanlaw11: pick, same. -/
namespace Go.Proofs.Ythkhdbinkcgpgaa
open Go.RowKit

theorem RowIn.rowof {J : List (Nat × Obj)} {v : Value} {l : List O} {w : World} (h : RowIn J 24 6 v l.length (l.flatMap O.cells)) (hJ : ∀ q ∈ J, w.heap[q.1]? = some q.2) : RowOf w v l.length l := by
  rcases h with ⟨rfl, h0, -⟩ | ⟨g, cap, cur, fz, rfl, hm, k1, k2, k3, k4, k5⟩
  · exact ⟨none, 0, by rw [h0], by omega, fun h => by omega⟩
  · refine ⟨_, cap, rfl, k1, fun _ => ⟨g, cur, fz, rfl, hJ _ hm, fun m o ho j hj => ?_⟩⟩
    have hml := (List.getElem?_eq_some_iff.1 ho).1
    rw [← Array.getElem?_toList, ← flat_at l m j o ho hj, ← k4, List.getElem?_take, if_pos (by omega)]
/-- An object of those so far, or a raw one. -/
def pickL (l : List O) (k : Int) (raw : O) : O := if k < 0 then raw else if l = [] then raw else (l[k.toNat % l.length]?).getD raw
set_option maxRecDepth 100000 in
set_option maxHeartbeats 1000000 in
theorem pick_any {w0 w : World} {M : List (Nat × List C)} {K : List (Nat × Obj)} (A : Ats w0 w M K) {va : Value} {l : List O} (hr : RowIn K 24 6 va l.length (l.flatMap O.cells)) (hl : l.length ≤ 100000) (k : Int) (raw : O) {p : O} (hp : pickL l k raw = p) :
    Calls Try.prog 9 #[va, .int .i64 k, raw.val] w fun e w' => e = .returned p.val ∧ Ats w0 w' M K := by
  obtain ⟨kk, kx, kn, kp, kl, ks⟩ := raw
  have A1 := (A.alloc (Obj.cells #[.int .i64 kk, .bool kx, .int .i64 kn, .int .i64 kp, .int .i64 kl, .string ks] 24)).alloc (Obj.cells #[.int .i64 0, .bool false, .int .i64 0, .int .i64 0, .int .i64 0, .string ⟨#[]⟩] 24)
  simp only [World.size_alloc] at A1
  have hsub : ∀ a b : Nat × Obj, K.Sublist (a :: b :: K) := fun a b => (List.sublist_cons_self _ _).trans (List.sublist_cons_self _ _)
  obtain ⟨a, c, rfl, hac⟩ := hr.slice
  unfold pickL at hp
  by_cases h1 : k < 0
  · rw [if_pos h1] at hp
    subst hp
    have A7 := (A.alloc (Obj.cells #[.int .i64 kk, .bool kx, .int .i64 kn, .int .i64 kp, .int .i64 kl, .string ks] 24)).alloc (Obj.cells #[.int .i64 kk, .bool kx, .int .i64 kn, .int .i64 kp, .int .i64 kl, .string ks] 24)
    simp only [World.size_alloc] at A7
    clear hr
    go_enter Try.func9, Try.ntmps9
    go_wp2_with fail
    have R7 := cells_of (A7.box _ m0)
    refine bodyPost_ret (v := O.val (⟨kk, kx, kn, kp, kl, ks⟩ : O)) ?_ rfl ⟨rfl, A7.keep (hsub _ _)⟩
    simp [results, Try.results9, go_sem, R7]
  rw [if_neg h1] at hp
  by_cases h2 : l = []
  · rw [if_pos h2] at hp
    subst hp; subst h2
    have A7 := (A.alloc (Obj.cells #[.int .i64 kk, .bool kx, .int .i64 kn, .int .i64 kp, .int .i64 kl, .string ks] 24)).alloc (Obj.cells #[.int .i64 kk, .bool kx, .int .i64 kn, .int .i64 kp, .int .i64 kl, .string ks] 24)
    simp only [World.size_alloc] at A7
    clear hr
    simp only [List.length_nil]
    go_enter Try.func9, Try.ntmps9
    go_wp2_with fail
    have R7 := cells_of (A7.box _ m0)
    refine bodyPost_ret (v := O.val (⟨kk, kx, kn, kp, kl, ks⟩ : O)) ?_ rfl ⟨rfl, A7.keep (hsub _ _)⟩
    simp [results, Try.results9, go_sem, R7]
  rw [if_neg h2] at hp
  have hpos : 0 < l.length := List.length_pos_iff.2 h2
  have hm : k.toNat % l.length < l.length := Nat.mod_lt _ hpos
  obtain ⟨o, ho⟩ : ∃ o, l[k.toNat % l.length]? = some o := ⟨_, List.getElem?_eq_getElem hm⟩
  rw [ho, Option.getD_some] at hp
  subst hp
  obtain ⟨g, cap, cur, fz, hv, hg, k1, k2, k3, k4, -⟩ : ∃ g cap cur fz, (Value.slice a l.length c) = .slice (some ⟨g, 0, none⟩) l.length cap ∧ (g, Obj.cells cur 24 fz) ∈ K ∧ l.length ≤ cap ∧ cap ≤ maxLen ∧ cur.size = cap * 6 ∧ cur.toList.take (l.length * 6) = l.flatMap O.cells ∧ (l.flatMap O.cells).length = l.length * 6 := hr.resolve_left (by rintro ⟨-, h0, -⟩; omega)
  simp only [Value.slice.injEq, true_and] at hv
  obtain ⟨rfl, rfl⟩ := hv
  have hcur : ∀ j, j < 6 → cur[k.toNat % l.length * 6 + j]? = o.cells[j]? := fun j hj => by
    rw [← Array.getElem?_toList, ← flat_at l _ j o ho hj, ← k4, List.getElem?_take, if_pos (by omega)]
  have hrem : Int.tmod k l.length = ((k.toNat % l.length : Nat) : Int) := by
    obtain ⟨kn, rfl⟩ := Int.eq_ofNat_of_zero_le (show 0 ≤ k by omega)
    rw [Int.toNat_natCast]
    rfl
  have mg : ∀ a b : Nat × Obj, (g, Obj.cells cur 24 fz) ∈ a :: b :: K := fun a b => List.mem_cons_of_mem _ (List.mem_cons_of_mem _ hg)
  obtain ⟨ok, ox, on, op, ol, os⟩ := o
  have q0 := hcur 0 (by decide)
  have q1 := hcur 1 (by decide)
  have q2 := hcur 2 (by decide)
  have q3 := hcur 3 (by decide)
  have q4 := hcur 4 (by decide)
  have q5 := hcur 5 (by decide)
  simp only [O.cells, List.getElem?_cons_zero, List.getElem?_cons_succ, Nat.add_zero] at q0 q1 q2 q3 q4 q5
  have hpi : (0 : Int) < l.length := by omega
  have hne : ((l.length : Int) == 0) = false := by simp; omega
  have hne2 : (l.length == 0) = false := by simp; omega
  generalize hj : k.toNat % l.length = j at *
  generalize l.length = n at *
  have hji : (j : Int) < n := by omega
  have hjc : (j : Int) < c := by omega
  have hni : (n : Int) ≤ 100000 := by omega
  clear hcur ho hg k4 hj hr h2
  have A7 := (A.alloc (Obj.cells #[.int .i64 kk, .bool kx, .int .i64 kn, .int .i64 kp, .int .i64 kl, .string ks] 24)).alloc (Obj.cells #[.int .i64 ok, .bool ox, .int .i64 on, .int .i64 op, .int .i64 ol, .string os] 24)
  simp only [World.size_alloc] at A7
  (try clear Rr); (try clear yr); (try clear Zr)
  have Rr := cells_of (A1.box _ m0)
  have yr := blk_lt (A1.box _ m0)
  (try clear Rk); (try clear yk); (try clear Zk)
  have Rk := cells_of (A1.box _ m1)
  have yk := blk_lt (A1.box _ m1)
  (try clear Rg); (try clear yg); (try clear Zg)
  have Rg := cells_of (A1.box _ (mg _ _))
  have yg := blk_lt (A1.box _ (mg _ _))
  (try simp only at Rr yr Rk yk Rg yg)
  go_enter Try.func9, Try.ntmps9
  go_wp2_with fail
  have R7 := cells_of (A7.box _ m0)
  refine bodyPost_ret (v := O.val (⟨ok, ox, on, op, ol, os⟩ : O)) ?_ rfl ⟨rfl, A7.keep (hsub _ _)⟩
  simp [results, Try.results9, go_sem, R7]
end Go.Proofs.Ythkhdbinkcgpgaa
/- tympanlaw11.same: both heaps tell the same of an object. -/
namespace Go.Proofs.Ythkhdbinkcgpgaa
open Go.RowKit

/-- TS, for a drawn region to hold. -/
def TA (J0 : List (Nat × Obj)) (w0 : World) (hp gp : Nat) (M : List (Nat × List C)) (K : List (Nat × Obj)) (L Lr : List C) (W : World) : Prop := TS J0 w0 hp gp M K L Lr W
section
variable {J0 : List (Nat × Obj)} {w0 W : World} {hp gp : Nat} {M : List (Nat × List C)} {K : List (Nat × Obj)} {L Lr : List C}
theorem TA.drew (h : TA J0 w0 hp gp M K L Lr W) : TA J0 w0 hp gp M K L Lr W.drew := TS.drew h
theorem TA.pure {W' : World} (h : TA J0 w0 hp gp M K L Lr W) (X : Chg NoB W W') : TA J0 w0 hp gp M K L Lr W' := TS.pure h X
theorem TA.cells {g : Nat} {cs : Array Value} {T : TypeId} {fz : Nat × Nat} (hm : (g, Obj.cells cs T fz) ∈ K) : ∀ W, TA J0 w0 hp gp M K L Lr W → ∀ i, W.cell? ⟨g, i, none⟩ = cs[i]? :=
  fun _W h => cells_of (TS.box h _ hm)
end
/-- TS with the reference's boxes named. -/
def TF (J0 : List (Nat × Obj)) (w0 : World) (hp gp : Nat) (M : List (Nat × List C)) (E K : List (Nat × Obj)) (L : List C) (W : World) : Prop := RefK J0 gp L E ∧ Ats w0 W ((hp, L) :: M) (E ++ K)
section
variable {J0 : List (Nat × Obj)} {w0 w W : World} {hp gp : Nat} {M : List (Nat × List C)} {E K : List (Nat × Obj)} {L : List C}
theorem TF.drew (h : TF J0 w0 hp gp M E K L W) : TF J0 w0 hp gp M E K L W.drew := ⟨h.1, h.2.drew⟩
theorem TF.pure {W' : World} (h : TF J0 w0 hp gp M E K L W) (X : Chg NoB W W') : TF J0 w0 hp gp M E K L W' := ⟨h.1, h.2.pure X⟩
theorem TF.ts (h : TF J0 w0 hp gp M E K L W) : TS J0 w0 hp gp M K L L W := ⟨E, h.1, h.2⟩
theorem TF.box (h : TF J0 w0 hp gp M E K L W) (q : Nat × Obj) (hq : q ∈ K) : W.heap[q.1]? = some q.2 := h.2.box q (List.mem_append_right _ hq)
theorem TF.keep {K' : List (Nat × Obj)} (h : TF J0 w0 hp gp M E K L W) (hs : K'.Sublist K) : TF J0 w0 hp gp M E K' L W := ⟨h.1, h.2.keep (List.Sublist.append_left hs _)⟩
theorem TF.alloc (h : TF J0 w0 hp gp M E K L W) (o : Obj) : TF J0 w0 hp gp M E ((W.heap.size, o) :: K) L (W.alloc o) := ⟨h.1, (h.2.alloc o).perm List.perm_middle.symm⟩
theorem TF.cells {g : Nat} {cs : Array Value} {T : TypeId} {fz : Nat × Nat} (hm : (g, Obj.cells cs T fz) ∈ K) : ∀ W, TF J0 w0 hp gp M E K L W → ∀ i, W.cell? ⟨g, i, none⟩ = cs[i]? :=
  fun _W h => cells_of (TF.box h _ hm)
theorem TF.cellsE {g : Nat} {cs : Array Value} {T : TypeId} {fz : Nat × Nat} (hm : (g, Obj.cells cs T fz) ∈ E) : ∀ W, TF J0 w0 hp gp M E K L W → ∀ i, W.cell? ⟨g, i, none⟩ = cs[i]? :=
  fun _W h => cells_of (h.2.box _ (List.mem_append_left _ hm))
theorem TF.ask {f : Nat} {args : Array Value} {r : Value} (T : TF J0 w0 hp gp M E K L w) (h : RefK J0 gp L E → Ats w0 w ((hp, L) :: M) (E ++ K) → Calls Try.prog f args w fun e w' => e = .returned r ∧ Ats w0 w' ((hp, L) :: M) (E ++ K)) :
    Calls Try.prog f args w fun e w' => e = .returned r ∧ TF J0 w0 hp gp M E K L w' := (h T.1 T.2).mono fun _e _w' ⟨h1, h2⟩ => ⟨h1, T.1, h2⟩
theorem tf_may (o : O) {b : Bool} (hr : mayH L o = b) (T : TF J0 w0 hp gp M E K L w) : Calls Try.prog 50 #[ptr hp, o.val] w fun r w' => r = .returned (.bool b) ∧ TF J0 w0 hp gp M E K L w' := T.ask fun _ A => at_may A o hr (List.mem_cons_self ..)
theorem tf_rmay (o : O) {b : Bool} (hr : mayH L o = b) (T : TF J0 w0 hp gp M E K L w) : Calls Try.prog 52 #[ptr gp, o.val] w fun r w' => r = .returned (.bool b) ∧ TF J0 w0 hp gp M E K L w' := T.ask fun H A => rhmay_any H A (fun _q hq => List.mem_append_left _ hq) o hr
theorem tf_size (o : O) {n e : Int} (hr : sizeH L o = (n, e)) (T : TF J0 w0 hp gp M E K L w) : Calls Try.prog 55 #[ptr hp, o.val] w fun r w' => r = .returned (.tuple #[.int .i64 n, .int .i64 e]) ∧ TF J0 w0 hp gp M E K L w' := T.ask fun _ A => A.asks (List.mem_cons_self ..) fun h h1 h2 H => by subst h1 h2; have := hsize_any h o w H; rwa [hr] at this
theorem tf_rsize (o : O) {n e : Int} (hr : sizeH L o = (n, e)) (T : TF J0 w0 hp gp M E K L w) : Calls Try.prog 56 #[ptr gp, o.val] w fun r w' => r = .returned (.tuple #[.int .i64 n, .int .i64 e]) ∧ TF J0 w0 hp gp M E K L w' := T.ask fun H A => rsizeh_any H A (fun _q hq => List.mem_append_left _ hq) o hr
theorem tf_get (o : O) (i : Int) {o' : O} {e : Int} (hr : getH L o i = (o', e)) (T : TF J0 w0 hp gp M E K L w) : Calls Try.prog 42 #[ptr hp, o.val, .int .i64 i] w fun r w' => r = .returned (.tuple #[o'.val, .int .i64 e]) ∧ TF J0 w0 hp gp M E K L w' := T.ask fun _ A => at_get A o i hr
theorem tf_rget (o : O) (i : Int) {o' : O} {e : Int} (hr : getH L o i = (o', e)) (T : TF J0 w0 hp gp M E K L w) : Calls Try.prog 61 #[ptr gp, o.val, .int .i64 i] w fun r w' => r = .returned (.tuple #[o'.val, .int .i64 e]) ∧ TF J0 w0 hp gp M E K L w' := T.ask fun H A => rget_any H A (fun _q hq => List.mem_append_left _ hq) o i hr
theorem tf_bytes (o : O) {b : ByteArray} {e : Int} (hr : bytesH L o = (b, e)) (T : TF J0 w0 hp gp M E K L w) : Calls Try.prog 59 #[ptr hp, o.val] w fun r w' => r = .returned (.tuple #[.string b, .int .i64 e]) ∧ TF J0 w0 hp gp M E K L w' := T.ask fun _ A => at_bytes A o hr
theorem tf_rbytes (o : O) {b : ByteArray} {e : Int} (hr : bytesH L o = (b, e)) (T : TF J0 w0 hp gp M E K L w) : Calls Try.prog 60 #[ptr gp, o.val] w fun r w' => r = .returned (.tuple #[.string b, .int .i64 e]) ∧ TF J0 w0 hp gp M E K L w' := T.ask fun H A => rbytes_any H A (fun _q hq => List.mem_append_left _ hq) o hr
theorem tf_cells {n : Int} (hn : (L.length : Int) = n) (T : TF J0 w0 hp gp M E K L w) : Calls Try.prog 20 #[ptr hp] w fun r w' => r = .returned (.int .i64 n) ∧ TF J0 w0 hp gp M E K L w' := by
  subst hn
  exact T.ask fun _ A => (at_cells A).mono fun e w' ⟨h1, h2⟩ => ⟨h1, h2 ▸ A⟩
theorem tf_used {n : Int} (hn : (used L : Int) = n) (T : TF J0 w0 hp gp M E K L w) : Calls Try.prog 21 #[ptr hp] w fun r w' => r = .returned (.int .i64 n) ∧ TF J0 w0 hp gp M E K L w' := by
  subst hn
  exact T.ask fun _ A => (at_used A).mono fun e w' ⟨h1, h2⟩ => ⟨h1, h2 ▸ A⟩
theorem tf_rused {n : Int} (hn : (used L : Int) = n) (T : TF J0 w0 hp gp M E K L w) : Calls Try.prog 22 #[ptr gp] w fun r w' => r = .returned (.int .i64 n) ∧ TF J0 w0 hp gp M E K L w' := by
  subst hn
  exact T.ask fun H A => rused_any H A (fun q hq => List.mem_append_left _ hq)
theorem tf_items (o : O) {l : List O} {e : Int} (hr : itemsH L o = (l, e)) (T : TF J0 w0 hp gp M E K L w) : Calls Try.prog 57 #[ptr hp, o.val] w fun r w' => ∃ v, r = .returned (.tuple #[v, .int .i64 e]) ∧ ∃ R, RowG 24 6 R v l.length (l.flatMap O.cells) ∧ TF J0 w0 hp gp M E (R ++ K) L w' := by
  obtain ⟨H, A⟩ := T
  obtain ⟨h, e1, e2, HR⟩ := A.rep (List.mem_cons_self ..)
  subst e1 e2
  have hit := items_any h o w HR
  rw [hr] at hit
  refine hit.mono ?_
  rintro r w' ⟨v, h1, X, own⟩
  obtain ⟨R, hR, A'⟩ := A.ofOwns X own
  exact ⟨v, h1, R, hR, H, A'.perm (by
    classical refine List.perm_iff_count.2 fun q => ?_
    simp only [List.count_append]
    omega)⟩
theorem tf_ritems (o : O) {l : List O} {e : Int} (hr : itemsH L o = (l, e)) (T : TF J0 w0 hp gp M E K L w) : Calls Try.prog 58 #[ptr gp, o.val] w fun r w' => ∃ v, r = .returned (.tuple #[v, .int .i64 e]) ∧ ∃ R, RowG 24 6 R v l.length (l.flatMap O.cells) ∧ TF J0 w0 hp gp M E (R ++ K) L w' := by
  obtain ⟨H, A⟩ := T
  refine (ritems_any H A (fun q hq => List.mem_append_left _ hq) o hr).mono ?_
  rintro r w' ⟨v, h1, R, hR, A'⟩
  exact ⟨v, h1, R, hR, H, A'.perm (by
    classical refine List.perm_iff_count.2 fun q => ?_
    simp only [List.count_append]
    omega)⟩
end
theorem items_small {J0 : List (Nat × Obj)} {gp : Nat} {L : List C} {E : List (Nat × Obj)} (H : RefK J0 gp L E) (o : O) {l : List O} {e : Int} (hr : itemsH L o = (l, e)) : l.length ≤ 40000 := by
  rw [itemsH] at hr
  by_cases hf : findE L o = 0
  · rw [if_neg (by simp [hf])] at hr
    obtain ⟨c, hc, -⟩ := find_cell hf
    have hs := cell_le hc H.bounds.2
    rw [hc] at hr
    simp only at hr
    by_cases ht : c.text = true
    · rw [if_pos ht] at hr
      simp only [Prod.mk.injEq] at hr
      rw [← hr.1]; simp
    · rw [if_neg ht] at hr
      simp only [Prod.mk.injEq] at hr
      rw [← hr.1, List.length_take, List.length_drop]
      rw [C.size, if_neg ht] at hs
      omega
  · rw [if_pos (by simpa using hf)] at hr
    simp only [Prod.mk.injEq] at hr
    rw [← hr.1]; simp
set_option maxRecDepth 100000 in
set_option maxHeartbeats 2000000 in
theorem same11_at {J0 : List (Nat × Obj)} {w0 w : World} {hp gp : Nat} {M : List (Nat × List C)} {E K : List (Nat × Obj)} {L : List C} (T : TF J0 w0 hp gp M E K L w) (o : O) (i : Int) :
    Calls Try.prog 19 #[ptr hp, ptr gp, o.val, .int .i64 i] w fun r w' => r = .returned (.bool true) ∧ TF J0 w0 hp gp M E K L w' := by
  obtain ⟨n, e1, h1⟩ : ∃ n e, sizeH L o = (n, e) := ⟨_, _, rfl⟩
  obtain ⟨l, e2, h2⟩ : ∃ l e, itemsH L o = (l, e) := ⟨_, _, rfl⟩
  obtain ⟨s, e3, h3⟩ : ∃ s e, bytesH L o = (s, e) := ⟨_, _, rfl⟩
  obtain ⟨x, e4, h4⟩ : ∃ x e, getH L o i = (x, e) := ⟨_, _, rfl⟩
  obtain ⟨b, h5⟩ : ∃ b, mayH L o = b := ⟨_, rfl⟩
  have hl : l.length ≤ 40000 := items_small T.1 o h2
  have H1 := hid' (fun W K (T : TF J0 w0 hp gp M E K L W) => tf_size o h1 T)
  have H1r := hid' (fun W K (T : TF J0 w0 hp gp M E K L W) => tf_rsize o h1 T)
  have H2 := hid' (fun W K (T : TF J0 w0 hp gp M E K L W) => tf_items o h2 T)
  have H2r := hid' (fun W K (T : TF J0 w0 hp gp M E K L W) => tf_ritems o h2 T)
  have H3 := hid' (fun W K (T : TF J0 w0 hp gp M E K L W) => tf_bytes o h3 T)
  have H3r := hid' (fun W K (T : TF J0 w0 hp gp M E K L W) => tf_rbytes o h3 T)
  have H4 := hid' (fun W K (T : TF J0 w0 hp gp M E K L W) => tf_get o i h4 T)
  have H4r := hid' (fun W K (T : TF J0 w0 hp gp M E K L W) => tf_rget o i h4 T)
  have H5 := hid' (fun W K (T : TF J0 w0 hp gp M E K L W) => tf_may o h5 T)
  have H5r := hid' (fun W K (T : TF J0 w0 hp gp M E K L W) => tf_rmay o h5 T)
  have HL := hid' hl
  obtain ⟨kk, kx, kn, kp, kl, ks⟩ := o
  have qe : eqO x x = true := eqO_self _
  obtain ⟨xk, xx, xn, xp, xl, xs⟩ := x
  clear h1 h2 h3 h4 h5 hl
  have T1 := T.alloc (Obj.cells #[.int .i64 kk, .bool kx, .int .i64 kn, .int .i64 kp, .int .i64 kl, .string ks] 24)
  go_enter Try.func19, Try.ntmps19
  go_wp2_with fail
  refine (H1.out _ _ T1).mono ?_
  rintro r w1 ⟨rfl, T2⟩
  (try clear Rk); (try clear yk); (try clear Zk)
  have Rk := cells_of (T2.box _ m0)
  have yk := blk_lt (T2.box _ m0)
  (try simp only at Rk yk)
  go_wp2_with fail
  refine (H1r.out _ _ T2).mono ?_
  rintro r w2 ⟨rfl, T3⟩
  (try clear Rk); (try clear yk); (try clear Zk)
  have Rk := cells_of (T3.box _ m0)
  have yk := blk_lt (T3.box _ m0)
  (try simp only at Rk yk)
  go_wp2_with fail
  refine (H2.out _ _ T3).mono ?_
  rintro r w3 ⟨va, rfl, R1, hR1, T4⟩
  (try clear Rk); (try clear yk); (try clear Zk)
  have Rk := cells_of (T4.box _ (List.mem_append_right _ m0))
  have yk := blk_lt (T4.box _ (List.mem_append_right _ m0))
  (try simp only at Rk yk)
  go_wp2_with fail
  refine (H2r.out _ _ T4).mono ?_
  rintro r w4 ⟨vb, rfl, R2, hR2, T5⟩
  have HR1 := hid' hR1
  have HR2 := hid' hR2
  obtain ⟨a1, c1, rfl, -⟩ := hR1.rowin.slice
  obtain ⟨a2, c2, rfl, -⟩ := hR2.rowin.slice
  clear hR1 hR2 T1 T2 T3 T4
  obtain ⟨K5, hK5⟩ : ∃ K5, K5 = R2 ++ (R1 ++ ((w.heap.size, Obj.cells #[.int .i64 kk, .bool kx, .int .i64 kn, .int .i64 kp, .int .i64 kl, .string ks] 24) :: K)) := ⟨_, rfl⟩
  rw [← hK5] at T5
  have HK5 := hid' hK5
  have mk : (w.heap.size, Obj.cells #[.int .i64 kk, .bool kx, .int .i64 kn, .int .i64 kp, .int .i64 kl, .string ks] 24) ∈ K5 := by rw [hK5]; simp
  clear hK5
  (try clear Rk); (try clear yk); (try clear Zk)
  have Rk := cells_of (T5.box _ mk)
  have yk := blk_lt (T5.box _ mk)
  (try simp only at Rk yk)
  go_wp2_with fail
  refine (H3.out _ _ T5).mono ?_
  rintro r w5 ⟨rfl, T6⟩
  clear T5
  (try clear Rk); (try clear yk); (try clear Zk)
  have Rk := cells_of (T6.box _ mk)
  have yk := blk_lt (T6.box _ mk)
  (try simp only at Rk yk)
  go_wp2_with fail
  refine (H3r.out _ _ T6).mono ?_
  rintro r w6 ⟨rfl, T7⟩
  clear T6
  (try clear Rk); (try clear yk); (try clear Zk)
  have Rk := cells_of (T7.box _ mk)
  have yk := blk_lt (T7.box _ mk)
  (try simp only at Rk yk)
  go_wp2_with fail
  refine (H4.out _ _ T7).mono ?_
  rintro r w7 ⟨rfl, T8⟩
  clear T7
  have T8a := T8.alloc (Obj.cells #[.int .i64 xk, .bool xx, .int .i64 xn, .int .i64 xp, .int .i64 xl, .string xs] 24)
  clear T8
  (try clear Rk); (try clear yk); (try clear Zk)
  have Rk := cells_of (T8a.box _ (List.mem_cons_of_mem _ mk))
  have yk := blk_lt (T8a.box _ (List.mem_cons_of_mem _ mk))
  (try simp only at Rk yk)
  go_wp2_with fail
  refine (H4r.out _ _ T8a).mono ?_
  rintro r w8 ⟨rfl, T9⟩
  clear T8a
  have T9a := T9.alloc (Obj.cells #[.int .i64 xk, .bool xx, .int .i64 xn, .int .i64 xp, .int .i64 xl, .string xs] 24)
  clear T9
  go_upto_region 9 with (fail)
  generalize w8.heap.size = b8 at *
  generalize w7.heap.size = b7 at *
  generalize w8.alloc _ = w9 at *
  obtain ⟨KL, hKL⟩ : ∃ KL, KL = (b8, Obj.cells #[.int .i64 xk, .bool xx, .int .i64 xn, .int .i64 xp, .int .i64 xl, .string xs] 24) :: (b7, Obj.cells #[.int .i64 xk, .bool xx, .int .i64 xn, .int .i64 xp, .int .i64 xl, .string xs] 24) :: K5 := ⟨_, rfl⟩
  rw [← hKL] at T9a
  have m8 : (b8, Obj.cells #[.int .i64 xk, .bool xx, .int .i64 xn, .int .i64 xp, .int .i64 xl, .string xs] 24) ∈ KL := by rw [hKL]; simp
  have m7 : (b7, Obj.cells #[.int .i64 xk, .bool xx, .int .i64 xn, .int .i64 xp, .int .i64 xl, .string xs] 24) ∈ KL := by rw [hKL]; simp
  have mk' : (w.heap.size, Obj.cells #[.int .i64 kk, .bool kx, .int .i64 kn, .int .i64 kp, .int .i64 kl, .string ks] 24) ∈ KL := by rw [hKL]; simp [mk]
  have HS : Hid (∀ W, TF J0 w0 hp gp M E KL L W → Calls Try.prog 39 #[.slice a1 l.length c1, .slice a2 l.length c2] W fun r w' => r = .returned (.bool true) ∧ TF J0 w0 hp gp M E KL L w') := hid' (fun W TW => by
    have q1 : ∀ q ∈ R1, W.heap[q.1]? = some q.2 := fun q hq => TF.box TW q (by rw [hKL, HK5.out]; simp [hq])
    have q2 : ∀ q ∈ R2, W.heap[q.1]? = some q.2 := fun q hq => TF.box TW q (by rw [hKL, HK5.out]; simp [hq])
    exact (same_rows W _ _ l.length l rfl (by have := HL.out; omega) (HR1.out.rowin.rowof q1) (HR2.out.rowin.rowof q2)).mono fun e w' ⟨h1, h2⟩ => ⟨h1, TF.pure TW h2⟩)
  have HKL := hid' hKL
  clear hKL mk
  have T9 : TF J0 w0 hp gp M E KL L w9 := T9a
  clear T9a Rk yk
  generalize l.length = ll at *
  have Qk := TF.cells (J0 := J0) (w0 := w0) (hp := hp) (gp := gp) (M := M) (E := E) (L := L) mk'
  have Q8 := TF.cells (J0 := J0) (w0 := w0) (hp := hp) (gp := gp) (M := M) (E := E) (L := L) m8
  have Q7 := TF.cells (J0 := J0) (w0 := w0) (hp := hp) (gp := gp) (M := M) (E := E) (L := L) m7
  go_region_held3 (fun W' => TF J0 w0 hp gp M E KL L W') (first | (with_reducible assumption) | (with_reducible exact TF.drew (by with_reducible assumption)) | (with_reducible exact TF.pure (by with_reducible assumption) (by with_reducible assumption)))
    (first
      | (go_at_call 39; refine (HS.out _ (by first | with_reducible assumption | with_reducible exact TF.drew (by with_reducible assumption))).mono ?_; rintro r w10 ⟨rfl, T10⟩)
      | (go_at_call 50; refine (H5.out _ _ (by first | with_reducible assumption | with_reducible exact TF.drew (by with_reducible assumption))).mono ?_; rintro r w11 ⟨rfl, T11⟩; have T11 : TF J0 w0 hp gp M E KL L w11 := T11)
      | (go_at_call 52; refine (H5r.out _ _ (by first | with_reducible assumption | with_reducible exact TF.drew (by with_reducible assumption))).mono ?_; rintro r w12 ⟨rfl, T12⟩; have T12 : TF J0 w0 hp gp M E KL L w12 := T12))
  all_goals
    go_wp2_with fail
    go_ret
    refine ⟨by simp, TF.keep (K := KL) (by first | exact T12 | exact T11) ?_⟩
    rw [HKL.out, HK5.out]
    exact ((((List.sublist_cons_self _ _).trans (List.sublist_append_right R1 _)).trans (List.sublist_append_right R2 _)).trans (List.sublist_cons_self _ _)).trans (List.sublist_cons_self _ _)
theorem same11_any {J0 : List (Nat × Obj)} {w0 w : World} {hp gp : Nat} {M : List (Nat × List C)} {K : List (Nat × Obj)} {L : List C} (T : TS J0 w0 hp gp M K L L w) (o : O) (i : Int) :
    Calls Try.prog 19 #[ptr hp, ptr gp, o.val, .int .i64 i] w fun r w' => r = .returned (.bool true) ∧ TS J0 w0 hp gp M K L L w' := by
  obtain ⟨E, H, A⟩ := T
  exact (same11_at (E := E) ⟨H, A⟩ o i).mono fun _e _w' ⟨h1, h2⟩ => ⟨h1, h2.ts⟩
end Go.Proofs.Ythkhdbinkcgpgaa
