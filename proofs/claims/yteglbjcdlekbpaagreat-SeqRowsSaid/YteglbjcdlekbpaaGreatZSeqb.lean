/- Fnd, Fdp, Fds, Fq -/
import Derived.Test.YteglbjcdlekbpaaGreatZSeqa
import Derived.Lib.IndexLaws
/- Walks: tympanhelp.Find, Begins; plain facts on Lib.index. -/
namespace Go.Proofs.YteglbjcdlekbpaaGreat
open Go.RowKit Go.Lib

theorem idx_occ : ∀ (s sub : List UInt8) (i : Nat), index s sub = (i : Int) → occAt s sub i = true ∧ (∀ j, j < i → occAt s sub j = false) ∧ i ≤ s.length
  | [], sub, i, h => by
    unfold index at h
    by_cases c : sub.isEmpty = true
    · rw [if_pos c] at h
      obtain rfl : i = 0 := by omega
      refine ⟨?_, fun j hj => absurd hj (Nat.not_lt_zero _), Nat.zero_le _⟩
      cases sub with
      | nil => rfl
      | cons a t => simp at c
    · rw [if_neg c] at h; omega
  | b :: l, sub, i, h => by
    unfold index at h
    by_cases c : sub.isPrefixOf (b :: l) = true
    · rw [if_pos c] at h
      obtain rfl : i = 0 := by omega
      exact ⟨by simpa [occAt] using c, fun j hj => absurd hj (Nat.not_lt_zero _), Nat.zero_le _⟩
    · rw [if_neg c] at h
      have hge := index_ge l sub
      by_cases d : (index l sub == -1) = true
      · rw [if_pos d] at h; omega
      · rw [if_neg d] at h
        have d' : index l sub ≠ -1 := by simpa using d
        obtain ⟨m, rfl⟩ : ∃ m, i = m + 1 := ⟨i - 1, by omega⟩
        obtain ⟨h1, h2, h3⟩ := idx_occ l sub m (by omega)
        refine ⟨by simpa [occAt] using h1, fun j hj => ?_, by simp; omega⟩
        cases j with
        | zero => cases e : sub.isPrefixOf (b :: l) with
          | true => exact absurd e c
          | false => simpa [occAt] using e
        | succ j => have := h2 j (by omega); simpa [occAt] using this
theorem ext_lst (x : ByteArray) (i n : Nat) : (x.extract i (i + n)).toList = (x.toList.drop i).take n := by
  rw [ByteArray.toList_eq, ByteArray.toList_eq, ByteArray.data_extract]
  simp [List.take_drop]
theorem occ_iff (x y : ByteArray) (i : Nat) : occAt x.toList y.toList i = ((x.extract i (i + y.size)).toList == y.toList) := by
  rw [ext_lst, Bool.eq_iff_iff, beq_iff_eq]
  unfold occAt
  rw [List.isPrefixOf_iff_prefix, List.prefix_iff_eq_take]
  have : y.toList.length = y.size := by rw [ByteArray.toList_eq]; rfl
  rw [this]
  exact eq_comm
set_option maxRecDepth 100000 in
theorem find19_any (x y : ByteArray) (k : Nat) (sx : x.size ≤ 40000) (sy : y.size ≤ 40000) (hk : k + y.size ≤ x.size) (h1 : occAt x.toList y.toList k = true) (h2 : ∀ j, j < k → occAt x.toList y.toList j = false) (w : World) :
    Calls Tryz.prog 37 #[.string x, .string y] w fun e w' => e = .returned (.int .i64 k) ∧ w = w' := by
  have H2 := hid' (fun (j : Nat) (hj : j < k) => (show ((x.extract j (j + y.size)).toList == y.toList) = false by rw [← occ_iff]; exact h2 j hj))
  have H1 := hid' (show ((x.extract k (k + y.size)).toList == y.toList) = true by rw [← occ_iff]; exact h1)
  have s1 : (x.size : Int) ≤ 40000 := by omega
  have s2 : (y.size : Int) ≤ 40000 := by omega
  have s3 : (k : Int) + y.size ≤ x.size := by omega
  clear h1 h2
  go_enter Tryz.func37, Tryz.ntmps37
  go_wp2_with fail
  go_loopw [5] (fun iv wr => ∃ i : Nat, i ≤ k ∧ iv = .int .i64 i ∧ wr = w) (fun iv _ => k - (RowKit.intOf iv).toNat)
  case atStart => exact ⟨0, Nat.zero_le _, rfl, rfl⟩
  case round =>
    obtain ⟨i, hi, rfl, rfl⟩ := hrel
    have e1 : (i : Int) ≤ k := by omega
    have e2 : (0 : Int) ≤ i := by omega
    have e3 : (0 : Int) ≤ y.size := by omega
    by_cases hlt : i < k
    · have hq := H2.out i hlt
      go_wp2_with fail
      go_roundw
      case rel => exact ⟨i + 1, by omega, by go_num, trivial⟩
      case measure => simp [RowKit.intOf]; omega
    · obtain rfl : i = k := by omega
      have hq := H1.out
      go_wp2_with fail
      go_ret
      exact ⟨rfl, rfl⟩
set_option maxRecDepth 100000 in
theorem begins19_any (x y : ByteArray) (v : Bool) (sx : x.size ≤ 40000) (hk : y.size ≤ x.size) (hv : occAt x.toList y.toList 0 = v) (w : World) :
    Calls Tryz.prog 36 #[.string x, .string y] w fun e w' => e = .returned (.bool v) ∧ w = w' := by
  rw [occ_iff, Nat.zero_add] at hv
  have s1 : (x.size : Int) ≤ 40000 := by omega
  have s2 : (y.size : Int) ≤ x.size := by omega
  have s3 : (0 : Int) ≤ y.size := by omega
  go_enter Tryz.func36, Tryz.ntmps36
  go_wp2_with fail
  go_ret
  exact ⟨rfl, rfl⟩
end Go.Proofs.YteglbjcdlekbpaaGreat
/- Plain: SeqFound. -/
namespace Go.Proofs.YteglbjcdlekbpaaGreat
open Go.RowKit Go.Lib

theorem ba_inj {x y : ByteArray} (h : x.toList = y.toList) : x = y := by
  rw [ByteArray.toList_eq, ByteArray.toList_eq] at h
  exact ByteArray.ext (Array.toList_inj.1 h)
theorem ba_app (x y : ByteArray) : (x ++ y).toList = x.toList ++ y.toList := by
  simp [ByteArray.toList_eq]
theorem ba_len (x : ByteArray) : x.toList.length = x.size := by rw [ByteArray.toList_eq]; rfl
theorem ba_cut (x : ByteArray) (i n : Nat) : (⟨((x.toList.drop i).take n).toArray⟩ : ByteArray) = x.extract i (i + n) := by
  apply ba_inj
  rw [ext_lst, ByteArray.toList_eq]
theorem least_occ (s sub : List UInt8) : ∀ n, occAt s sub n = true → ∃ k, k ≤ n ∧ occAt s sub k = true ∧ ∀ j, j < k → occAt s sub j = false := by
  intro n
  induction n using Nat.strongRecOn with
  | _ n ih =>
    intro h
    by_cases c : ∃ j, j < n ∧ occAt s sub j = true
    · obtain ⟨j, hj, hj2⟩ := c
      obtain ⟨k, h1, h2⟩ := ih j hj hj2
      exact ⟨k, by omega, h2⟩
    · refine ⟨n, Nat.le_refl _, h, fun j hj => ?_⟩
      cases e : occAt s sub j with
      | false => rfl
      | true => exact absurd ⟨j, hj, e⟩ c
theorem found_plain (a b c s : ByteArray) (hs : a ++ b ++ c = s) : ∃ k : Nat, k ≤ a.size ∧ index s.data.toList b.data.toList = (k : Int) ∧ occAt s.toList b.toList k = true ∧ (∀ j, j < k → occAt s.toList b.toList j = false) ∧
    s.extract 0 (0 + k) ++ b ++ s.extract (k + b.size) (k + b.size + (s.size - k - b.size)) = s ∧ (s.extract 0 (0 + k)).size = k ∧ s.extract k (k + b.size) = b ∧ k + b.size ≤ s.size := by
  have hl : s.toList = a.toList ++ (b.toList ++ c.toList) := by rw [← hs, ba_app, ba_app, List.append_assoc]
  have hsz : s.size = a.size + b.size + c.size := by rw [← ba_len, hl]; simp [ba_len]; omega
  have ho : occAt s.toList b.toList a.size = true := by
    unfold occAt
    rw [hl, ← ba_len a, List.drop_left, List.isPrefixOf_iff_prefix]
    exact List.prefix_append _ _
  obtain ⟨k, k1, k2, k3⟩ := least_occ _ _ _ ho
  have hk : k + b.size ≤ s.size := by omega
  have hx : s.extract k (k + b.size) = b := by
    have := k2
    rw [occ_iff, beq_iff_eq] at this
    exact ba_inj this
  refine ⟨k, k1, ?_, k2, k3, ?_, ?_, hx, hk⟩
  · rw [← ByteArray.toList_eq, ← ByteArray.toList_eq]
    exact index_first (by rw [ba_len]; omega) k2 k3
  · apply ba_inj
    rw [ba_app, ba_app, ext_lst, ext_lst, List.drop_zero]
    have h2 : b.toList = (s.toList.drop k).take b.size := by rw [← ext_lst, hx]
    rw [h2, List.take_of_length_le (i := s.size - k - b.size) (by rw [List.length_drop, ba_len]; omega), List.append_assoc, ← List.drop_drop, List.take_append_drop, List.take_append_drop]
  · rw [← ba_len, ext_lst, List.drop_zero, List.length_take, ba_len]
    omega
/-- SeqFound's heap and operands. -/
abbrev fL (s b : ByteArray) : List C := [txt s.toList, txt b.toList]
theorem f_bytes (s b : ByteArray) (sx : s.size ≤ 40000) (p z : Nat) (h : p + z ≤ s.size) : bytesH (fL s b) (strN 0 false p z) = (s.extract p (p + z), 0) := by
  have := bytes_s (L := fL s b) (bs := s.toList) (N := 0) rfl (by omega) (by rw [ba_len]; omega) false p z (by omega) (by omega) (by rw [ba_len]; omega)
  rw [Int.toNat_natCast, Int.toNat_natCast, ba_cut] at this
  exact this
theorem f_bytesb (s b : ByteArray) (sx : b.size ≤ 40000) : bytesH (fL s b) (strN 1 false 0 b.size) = (b, 0) := by
  rw [show (1 : Int) = ((1 : Nat) : Int) from rfl, bytes_s (bs := b.toList) (N := 1) rfl (by omega) (by rw [ba_len]; omega) false 0 b.size (by omega) (by omega) (by rw [ba_len]; omega)]
  simp only [Int.toNat_zero, List.drop_zero, Int.toNat_natCast]
  rw [List.take_of_length_le (by rw [ba_len]; omega), ByteArray.toList_eq]
theorem f_bytess (s b : ByteArray) (sx : s.size ≤ 40000) : bytesH (fL s b) (strN 0 false 0 s.size) = (s, 0) := by
  rw [show (0 : Int) = ((0 : Nat) : Int) from rfl, bytes_s (bs := s.toList) (N := 0) rfl (by omega) (by rw [ba_len]; omega) false (0 : Nat) s.size (by omega) (by omega) (by rw [ba_len]; omega)]
  simp only [Int.toNat_natCast, List.drop_zero]
  rw [List.take_of_length_le (by rw [ba_len]; omega), ByteArray.toList_eq]
  rfl
theorem f_part (s b : ByteArray) (sx : s.size ≤ 40000) (i n : Int) (hi : 0 ≤ i) (hn : 0 ≤ n) (h : i + n ≤ s.size) : partH (fL s b) (strN 0 false 0 s.size) i n = (strN 0 false i n, 0) := by
  have := part_s (L := fL s b) (bs := s.toList) (N := 0) rfl (by omega) (by rw [ba_len]; omega) false 0 s.size i n (by omega) (by omega) (by rw [ba_len]; omega) hi hn h
  rw [Int.zero_add] at this
  exact this
theorem f_held (s b : ByteArray) (sx : s.size ≤ 40000) (sy : b.size ≤ 40000) : HeldAll (fL s b) [strN 0 false 0 s.size, strN 1 false 0 b.size] := by
  intro x hx _
  simp only [List.mem_cons, List.not_mem_nil, or_false] at hx
  rcases hx with rfl | rfl
  · exact may_s (L := fL s b) (bs := s.toList) (N := 0) rfl (by omega) (by rw [ba_len]; omega) false 0 s.size (by omega) (by omega) (by rw [ba_len]; omega)
  · exact may_s (L := fL s b) (bs := b.toList) (N := 1) rfl (by omega) (by rw [ba_len]; omega) false 0 b.size (by omega) (by omega) (by rw [ba_len]; omega)
end Go.Proofs.YteglbjcdlekbpaaGreat
/- SeqAt, for a drawn region to hold. -/
namespace Go.Proofs.YteglbjcdlekbpaaGreat
open Go.RowKit

/-- SeqAt, for a drawn region to hold. -/
def FS (w0 : World) (hp sp gp tp : Nat) (L G : List C) (l lt : List O) (KB : List (Nat × Obj)) (W : World) : Prop := SeqAt w0 W hp sp gp tp L G l lt KB
theorem FS.of {w0 W : World} {hp sp gp tp : Nat} {L G : List C} {l lt : List O} {KB : List (Nat × Obj)} (S : SeqAt w0 W hp sp gp tp L G l lt KB) : FS w0 hp sp gp tp L G l lt KB W := S
theorem FS.cells {w0 : World} {hp sp gp tp g : Nat} {L G : List C} {l lt : List O} {KB : List (Nat × Obj)} {cs : Array Value} {T : TypeId} {fz : Nat × Nat} (hm : (g, Obj.cells cs T fz) ∈ KB) : ∀ W, FS w0 hp sp gp tp L G l lt KB W → ∀ i, W.cell? ⟨g, i, none⟩ = cs[i]? := fun _W h => cells_of (SeqAt.box h _ hm)
end Go.Proofs.YteglbjcdlekbpaaGreat
/- The laws' functions of layer 19 as steps between states that a drawn region can hold. -/
namespace Go.Proofs.YteglbjcdlekbpaaGreat
open Go.RowKit

/-- What a law of layer 19 has: the heap's cells, the reference's, the operands, the reference's. -/
abbrev QX := List C × List C × List O × List O
def FQ (w0 : World) (hp sp gp tp : Nat) (KB : List (Nat × Obj)) (x : QX) (W : World) : Prop := SeqAt w0 W hp sp gp tp x.1 x.2.1 x.2.2.1 x.2.2.2 KB
section
variable {w0 : World} {hp sp gp tp : Nat} {KB : List (Nat × Obj)}
theorem FQ.drew {x : QX} {W : World} (h : FQ w0 hp sp gp tp KB x W) : FQ w0 hp sp gp tp KB x W.drew := SeqAt.drew h
theorem FQ.pure {x : QX} {W W' : World} (h : FQ w0 hp sp gp tp KB x W) (X : Chg NoB W W') : FQ w0 hp sp gp tp KB x W' := SeqAt.pure h X
theorem FQ.chg {x : QX} {W : World} (h : FQ w0 hp sp gp tp KB x W) : Chg NoB w0 W := SeqAt.chg h
theorem FQ.cells {f : Nat → QX} {g : Nat} {cs : Array Value} {T : TypeId} {fz : Nat × Nat} (hm : (g, Obj.cells cs T fz) ∈ KB) : ∀ W, (∃ n, FQ w0 hp sp gp tp KB (f n) W) → ∀ i, W.cell? ⟨g, i, none⟩ = cs[i]? := fun _ ⟨_, h⟩ => cells_of (SeqAt.box h _ hm)
theorem FQ.cells1 {x : QX} {g : Nat} {cs : Array Value} {T : TypeId} {fz : Nat × Nat} {W : World} (h : FQ w0 hp sp gp tp KB x W) (hm : (g, Obj.cells cs T fz) ∈ KB) : ∀ i, W.cell? ⟨g, i, none⟩ = cs[i]? := cells_of (SeqAt.box h _ hm)
theorem FQ.push {x y : QX} (o : O) (hm : mayO o = true) (h1 : x.2.2.1.length < 200) (h2 : x.2.2.2.length < 200) (hy : (x.1, x.2.1, x.2.2.1 ++ [o], x.2.2.2 ++ [o]) = y) (W : World) (S : FQ w0 hp sp gp tp KB x W) :
    Calls Tryz.prog 32 #[qVal hp sp gp tp, o.val] W fun e w' => e = .returned (.bool true) ∧ FQ w0 hp sp gp tp KB y w' := by
  subst hy; exact push19_any S o hm h1 h2
theorem FQ.num {x : QX} (n : Int) (W : World) (S : FQ w0 hp sp gp tp KB x W) :
    Calls Tryz.prog 33 #[.int .i64 n] W fun e w' => e = .returned (iO n).val ∧ FQ w0 hp sp gp tp KB x w' :=
  (num19_any n W).mono fun _ _ h => ⟨h.1, S.pure h.2⟩
theorem FQ.text {x y : QX} (s : ByteArray) (hG : x.2.1 = x.1) (h1 : x.1.length < 2000) (h2 : used x.1 + s.size ≤ 40000) (h3 : x.2.2.1.length < 200) (h4 : x.2.2.2.length < 200)
    (hy : (x.1 ++ [txt s.toList], x.1 ++ [txt s.toList], x.2.2.1 ++ [strN x.1.length false 0 s.size], x.2.2.2 ++ [strN x.1.length false 0 s.size]) = y) (W : World) (S : FQ w0 hp sp gp tp KB x W) :
    Calls Tryz.prog 30 #[qVal hp sp gp tp, .string s] W fun e w' => e = .returned (.bool true) ∧ FQ w0 hp sp gp tp KB y w' := by
  subst hy
  obtain ⟨L, G, l, lt⟩ := x
  simp only at hG
  subst hG
  exact text19_any S s h1 h2 h3 h4
theorem FQ.doing {x y : QX} (nm : ByteArray) (n e : Int) (b : Bool) (HN : ∀ w', Calls Tryz.prog 12 #[.string nm] w' fun r w2 => r = .returned (.tuple #[.int .i64 n, .bool b]) ∧ Chg NoB w' w2) {L' : List C} {l' : List O}
    (HD : ∀ w' K', StkAt w0 w' [(hp, x.1)] K' sp x.2.2.1 → Calls Tryz.prog 59 #[ptr hp, ptr sp, .int .i64 n] w' fun r w2 => r = .returned (.int .i64 e) ∧ StkAt w0 w2 [(hp, L')] K' sp l')
    (hy : (L', x.2.1, l', x.2.2.2) = y) (W : World) (S : FQ w0 hp sp gp tp KB x W) :
    Calls Tryz.prog 34 #[qVal hp sp gp tp, .string nm] W fun r w' => r = .returned (.int .i64 e) ∧ FQ w0 hp sp gp tp KB y w' := by
  subst hy; exact do19_any S nm n e b HN HD
theorem FQ.top {x : QX} (i m : Nat) (o : O) (hm : m + 1 + i = x.2.2.1.length) (ho : x.2.2.1[m]? = some o) (b : ByteArray) (e : Int) (hb : bytesH x.1 o = (b, e)) (W : World) (S : FQ w0 hp sp gp tp KB x W) :
    Calls Tryz.prog 35 #[qVal hp sp gp tp, .int .i64 i] W fun r w' => r = .returned (.string b) ∧ FQ w0 hp sp gp tp KB x w' := top19_any S i m o hm ho b e hb
theorem FQ.peek {x : QX} (i m : Nat) (o : O) (hm : m + 1 + i = x.2.2.1.length) (ho : x.2.2.1[m]? = some o) (W : World) (S : FQ w0 hp sp gp tp KB x W) :
    Calls Tryz.prog 31 #[ptr sp, .int .i64 i] W fun r w' => r = .returned (.tuple #[o.val, .int .i64 0]) ∧ FQ w0 hp sp gp tp KB x w' :=
  SeqAt.stk (L' := x.1) (l' := x.2.2.1) S (fun _ S2 => stk_peek S2 i m o hm ho)
theorem FQ.len {x : QX} (k : Int) (hk : (x.2.2.1.length : Int) = k) (W : World) (S : FQ w0 hp sp gp tp KB x W) :
    Calls Tryz.prog 18 #[ptr sp] W fun r w' => r = .returned (.int .i64 k) ∧ FQ w0 hp sp gp tp KB x w' := by
  subst hk
  exact SeqAt.stk (L' := x.1) (l' := x.2.2.1) S (fun _ S2 => (stk_len S2).mono fun _ _ h => ⟨h.1, h.2 ▸ S2⟩)
/-- Behind fresh: nothing. -/
theorem FQ.fresh (W : World) (X : Chg NoB w0 W) :
    Calls Tryz.prog 29 #[] W fun e w' => ∃ hp sp gp tp, e = .returned (qVal hp sp gp tp) ∧ FQ w0 hp sp gp tp [] ([], [], [], []) w' := fresh19_any (Ats.start X)
theorem FQ.alloc {x : QX} {W : World} (S : FQ w0 hp sp gp tp KB x W) (o : Obj) : FQ w0 hp sp gp tp ((W.heap.size, o) :: KB) x (W.alloc o) := SeqAt.alloc S o
theorem FQ.keep {K' : List (Nat × Obj)} {x : QX} {W : World} (S : FQ w0 hp sp gp tp KB x W) (h : K'.Sublist KB) : FQ w0 hp sp gp tp K' x W := SeqAt.keep S h
theorem FQ.box {x : QX} {W : World} (S : FQ w0 hp sp gp tp KB x W) (q : Nat × Obj) (hq : q ∈ KB) : W.heap[q.1]? = some q.2 := SeqAt.box S q hq
theorem FQ.set {x y : QX} (o : O) (i : Int) (q : O) {L' : List C} {e : Int} (hr : setH x.1 o i q = (L', e)) (hy : (L', x.2.1, x.2.2.1, x.2.2.2) = y) (W : World) (S : FQ w0 hp sp gp tp KB x W) :
    Calls Tryz.prog 41 #[ptr hp, o.val, .int .i64 i, q.val] W fun r w' => r = .returned (.int .i64 e) ∧ FQ w0 hp sp gp tp KB y w' := by
  subst hy
  exact SeqAt.stk (L' := L') (l' := x.2.2.1) (r := .int .i64 e) S (fun _ S2 => S2.ask (M' := [(hp, L')]) (fun _ A => at_set A o i q hr))
theorem FQ.bytes {x : QX} (o : O) (b : ByteArray) (e : Int) (hb : bytesH x.1 o = (b, e)) (W : World) (S : FQ w0 hp sp gp tp KB x W) :
    Calls Tryz.prog 42 #[ptr hp, o.val] W fun r w' => r = .returned (.tuple #[.string b, .int .i64 e]) ∧ FQ w0 hp sp gp tp KB x w' :=
  SeqAt.stk (L' := x.1) (l' := x.2.2.1) (r := .tuple #[.string b, .int .i64 e]) S (fun _ S2 => S2.ask (fun _ A => at_bytes A o hb m0))
end
end Go.Proofs.YteglbjcdlekbpaaGreat
