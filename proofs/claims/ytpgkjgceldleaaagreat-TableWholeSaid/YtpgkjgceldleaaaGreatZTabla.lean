/- Uta, Ums, Umg, Umh -/
import Derived.Test.YtpgkjgceldleaaaGreatZScpc
import Derived.Test.YtpgkjgceldleaaaGreatZStack
import Derived.Test.YtpgkjgceldleaaaGreatZOpsb
/- A scope and operands side by side: what the operators of dictionaries work on. -/
namespace Go.Proofs.YtpgkjgceldleaaaGreat
open Go.RowKit

/-- Operands l at sp, dictionaries ds at cp, heaps M, boxes K. -/
def TabAt (w0 w : World) (M : List (Nat × List C)) (K : List (Nat × Obj)) (cp hp sp : Nat) (ds l : List O) : Prop :=
  ∃ g cap cur, ds.length ≤ cap ∧ cap ≤ maxLen ∧ cur.size = cap * 6 ∧ cur.toList.take (ds.length * 6) = ds.flatMap O.cells ∧ StkAt w0 w M ((g, .cells cur 38) :: (cp, scpBox hp g ds.length cap) :: K) sp l
section
variable {w0 w w' : World} {M M' : List (Nat × List C)} {K K' : List (Nat × Obj)} {cp hp sp : Nat} {ds ds' l l' : List O}
theorem TabAt.pure (S : TabAt w0 w M K cp hp sp ds l) (X : Chg NoB w w') : TabAt w0 w' M K cp hp sp ds l := by
  obtain ⟨g, cap, cur, h1, h2, h3, h4, S⟩ := S; exact ⟨g, cap, cur, h1, h2, h3, h4, S.pure X⟩
theorem TabAt.drew (S : TabAt w0 w M K cp hp sp ds l) : TabAt w0 w.drew M K cp hp sp ds l := S.pure (Chg.refl NoB w).drew
theorem TabAt.chg (S : TabAt w0 w M K cp hp sp ds l) : Chg NoB w0 w := by
  obtain ⟨g, cap, cur, h1, h2, h3, h4, S⟩ := S; exact S.chg
theorem TabAt.box (S : TabAt w0 w M K cp hp sp ds l) (q : Nat × Obj) (hq : q ∈ K) : w.heap[q.1]? = some q.2 := by
  obtain ⟨g, cap, cur, h1, h2, h3, h4, S⟩ := S; exact S.box q (List.mem_cons_of_mem _ (List.mem_cons_of_mem _ hq))
theorem TabAt.len (S : TabAt w0 w M K cp hp sp ds l) : l.length ≤ 200 := by
  obtain ⟨g, cap, cur, h1, h2, h3, h4, S⟩ := S; exact S.len
theorem TabAt.may (S : TabAt w0 w M K cp hp sp ds l) : ∀ o ∈ l, mayO o = true := by
  obtain ⟨g, cap, cur, h1, h2, h3, h4, S⟩ := S; exact S.may
theorem TabAt.over (S : TabAt w0 w M K cp hp sp ds l) (h : ∀ E, StkAt w0 w M (E ++ K) sp l → StkAt w0 w' M' (E ++ K') sp l') : TabAt w0 w' M' K' cp hp sp ds l' := by
  obtain ⟨g, cap, cur, h1, h2, h3, h4, S⟩ := S; exact ⟨g, cap, cur, h1, h2, h3, h4, h [_, _] S⟩
theorem TabAt.alloc (S : TabAt w0 w M K cp hp sp ds l) (o : Obj) : TabAt w0 (w.alloc o) M ((w.heap.size, o) :: K) cp hp sp ds l :=
  S.over fun _ A => (A.alloc o).perm List.perm_middle.symm
theorem TabAt.keep (S : TabAt w0 w M K cp hp sp ds l) (h : K'.Sublist K) : TabAt w0 w M K' cp hp sp ds l := S.over fun _ A => A.keep (h.append_left _)
theorem TabAt.perm (S : TabAt w0 w M K cp hp sp ds l) (h : K.Perm K') : TabAt w0 w M K' cp hp sp ds l := S.over fun _ A => A.perm (h.append_left _)
theorem TabAt.put {b : Nat} {cs : Array Value} {T : TypeId} {fz : Nat × Nat} (S : TabAt w0 w M ((b, .cells cs T fz) :: K) cp hp sp ds l) (i : Nat) (v : Value) :
    TabAt w0 (w.setCell ⟨b, i, none⟩ v) M ((b, .cells (cs.setIfInBounds i v) T fz) :: K) cp hp sp ds l :=
  S.over fun _ A => ((A.perm List.perm_middle).put i v).perm List.perm_middle.symm
theorem TabAt.putO {b : Nat} {c0 c1 c2 c3 c4 c5 : Value} {T : TypeId} (S : TabAt w0 w M ((b, .cells #[c0, c1, c2, c3, c4, c5] T) :: K) cp hp sp ds l) (kk : Int) (kx : Bool) (kn kp kl : Int) (ks : ByteArray) :
    TabAt w0 ((((((w.setCell ⟨b, 0, none⟩ (.int .i64 kk)).setCell ⟨b, 1, none⟩ (.bool kx)).setCell ⟨b, 2, none⟩ (.int .i64 kn)).setCell ⟨b, 3, none⟩ (.int .i64 kp)).setCell ⟨b, 4, none⟩ (.int .i64 kl)).setCell ⟨b, 5, none⟩ (.string ks)) M ((b, .cells #[.int .i64 kk, .bool kx, .int .i64 kn, .int .i64 kp, .int .i64 kl, .string ks] T) :: K) cp hp sp ds l :=
  S.over fun _ A => ((A.perm List.perm_middle).putO kk kx kn kp kl ks).perm List.perm_middle.symm
theorem TabAt.cellsOf {g : Nat} {cs : Array Value} {T : TypeId} {fz : Nat × Nat} (h : (g, Obj.cells cs T fz) ∈ K) : ∀ W, TabAt w0 W M K cp hp sp ds l → ∀ i, W.cell? ⟨g, i, none⟩ = cs[i]? :=
  fun _W A i => cells_of (A.box _ h) i
/-- What goes for the operands. -/
theorem TabAt.stk {f : Nat} {args : Array Value} {r : Value} (S : TabAt w0 w M K cp hp sp ds l)
    (h : ∀ K', StkAt w0 w M K' sp l → Calls Tryz.prog f args w fun e w' => e = .returned r ∧ StkAt w0 w' M' K' sp l') :
    Calls Tryz.prog f args w fun e w' => e = .returned r ∧ TabAt w0 w' M' K cp hp sp ds l' := by
  obtain ⟨g, cap, cur, h1, h2, h3, h4, S⟩ := S
  exact (h _ S).mono fun e w' ⟨e1, e2⟩ => ⟨e1, g, cap, cur, h1, h2, h3, h4, e2⟩
/-- What goes for the heaps and boxes. -/
theorem TabAt.ask {f : Nat} {args : Array Value} {r : Value} (S : TabAt w0 w M K cp hp sp ds l)
    (h : ∀ K', Ats w0 w M K' → Calls Tryz.prog f args w fun e w' => e = .returned r ∧ Ats w0 w' M' K') :
    Calls Tryz.prog f args w fun e w' => e = .returned r ∧ TabAt w0 w' M' K cp hp sp ds l := S.stk fun _ S2 => S2.ask h
theorem tab_perm {α : Type} (a b s : α) (R K : List α) : (R ++ s :: a :: b :: K).Perm (a :: b :: (R ++ s :: K)) := by
  classical refine List.perm_iff_count.2 fun q => ?_
  simp only [List.count_append, List.count_cons]
  omega
/-- What goes for the scope. -/
theorem TabAt.scp {f : Nat} {args : Array Value} {r : Value} (S : TabAt w0 w M K cp hp sp ds l)
    (h : ∀ K', ScpAt w0 w M K' cp hp ds → Calls Tryz.prog f args w fun e w' => e = .returned r ∧ ScpAt w0 w' M' K' cp hp ds') :
    Calls Tryz.prog f args w fun e w' => e = .returned r ∧ TabAt w0 w' M' K cp hp sp ds' l := by
  obtain ⟨g, cap, cur, h1, h2, h3, h4, hl, R, lv, hR, A⟩ := S
  refine (h _ ⟨g, cap, cur, h1, h2, h3, h4, A.perm (tab_perm _ _ _ _ _)⟩).mono ?_
  rintro e w' ⟨e1, g', cap', cur', i1, i2, i3, i4, A'⟩
  exact ⟨e1, g', cap', cur', i1, i2, i3, i4, hl, R, lv, hR, A'.perm (tab_perm _ _ _ _ _).symm⟩
theorem TabAt.of (S : ScpAt w0 w M K cp hp ds) {lv : Value} {R : List (Nat × Obj)} (hl : l.length ≤ 200 ∧ ∀ o ∈ l, mayO o = true) (hR : RowG 38 6 R lv l.length (l.flatMap O.cells)) (hK : K.Perm (R ++ (sp, stkBox lv) :: K')) : TabAt w0 w M K' cp hp sp ds l := by
  obtain ⟨g, cap, cur, h1, h2, h3, h4, A⟩ := S
  exact ⟨g, cap, cur, h1, h2, h3, h4, hl, R, lv, hR, (A.perm ((hK.cons _).cons _)).perm (tab_perm _ _ _ _ _).symm⟩
/-- Operands that were taken lie in a box more. -/
def TTaken (w0 : World) (M : List (Nat × List C)) (K : List (Nat × Obj)) (cp hp sp : Nat) (ds l ops : List O) (n : Nat) (e : Ending) (w' : World) : Prop :=
  ∃ g cur, e = .returned (.tuple #[.slice (some ⟨g, 0, none⟩) n n, .int .i64 0]) ∧ cur.toList = ops.flatMap O.cells ∧ TabAt w0 w' M ((g, .cells cur 38) :: K) cp hp sp ds l
theorem TabAt.take {f : Nat} {args : Array Value} {ops : List O} {n : Nat} (S : TabAt w0 w M K cp hp sp ds l)
    (h : ∀ E, StkAt w0 w M (E ++ K) sp l → Calls Tryz.prog f args w (Taken w0 M (E ++ K) sp l ops n)) : Calls Tryz.prog f args w (TTaken w0 M K cp hp sp ds l ops n) := by
  obtain ⟨g, cap, cur, h1, h2, h3, h4, S⟩ := S
  refine (h [_, _] S).mono ?_
  rintro e w' ⟨g', cur', e1, e2, S'⟩
  exact ⟨g', cur', e1, e2, g, cap, cur, h1, h2, h3, h4, S'.perm (List.perm_middle (l₁ := [_, _])).symm⟩
end
end Go.Proofs.YtpgkjgceldleaaaGreat
/- Walks: the methods of table that call one function and give nothing. -/
namespace Go.Proofs.YtpgkjgceldleaaaGreat
open Go.RowKit

abbrev wkBox (hp cp sp : Nat) (lv gv : Value) : Obj := .cells #[ptr hp, ptr cp, ptr sp, lv, gv] 152
/-- Whatever heaps, dictionaries, operands; boxes that stay: for a drawn region to hold. -/
def TB (w0 : World) (cp hp sp : Nat) (KB : List (Nat × Obj)) (W : World) : Prop := ∃ M ds l E, TabAt w0 W M (E ++ KB) cp hp sp ds l
section
variable {w0 W : World} {M : List (Nat × List C)} {cp hp sp : Nat} {ds l : List O} {KB : List (Nat × Obj)}
theorem TB.of (S : TabAt w0 W M KB cp hp sp ds l) : TB w0 cp hp sp KB W := ⟨M, ds, l, [], S⟩
theorem TB.more {q : Nat × Obj} (S : TabAt w0 W M (q :: KB) cp hp sp ds l) : TB w0 cp hp sp KB W := ⟨M, ds, l, [q], S⟩
theorem TB.more2 {q q' : Nat × Obj} (S : TabAt w0 W M (q :: q' :: KB) cp hp sp ds l) : TB w0 cp hp sp KB W := ⟨M, ds, l, [q, q'], S⟩
theorem TB.drew (h : TB w0 cp hp sp KB W) : TB w0 cp hp sp KB W.drew := by obtain ⟨M, ds, l, E, S⟩ := h; exact ⟨M, ds, l, E, S.drew⟩
theorem TB.alloc (h : TB w0 cp hp sp KB W) (o : Obj) : TB w0 cp hp sp KB (W.alloc o) := by obtain ⟨M, ds, l, E, S⟩ := h; exact ⟨M, ds, l, _ :: E, S.alloc o⟩
theorem TB.cells {g : Nat} {cs : Array Value} {T : TypeId} {fz : Nat × Nat} (hm : (g, Obj.cells cs T fz) ∈ KB) : ∀ W, TB w0 cp hp sp KB W → ∀ i, W.cell? ⟨g, i, none⟩ = cs[i]? := by
  rintro W ⟨M, ds, l, E, S⟩ i; exact cells_of (S.box _ (List.mem_append_right _ hm)) i
end
theorem give_any {w0 w : World} {M : List (Nat × List C)} {K : List (Nat × Obj)} {cp hp sp wb : Nat} {ds l : List O} {lv gv : Value} (S : TabAt w0 w M ((wb, wkBox hp cp sp lv gv) :: K) cp hp sp ds l) (a : Option Addr) (k c : Nat) :
    Calls Tryz.prog 145 #[ptr wb, .slice a k c] w fun e w' => e = .returned (.tuple #[]) ∧ TabAt w0 w' M ((wb, wkBox hp cp sp lv (.slice a k c)) :: K) cp hp sp ds l := by
  (try clear Ra); (try clear ya); (try clear Za)
  have Ra := cells_of (S.box _ m0)
  have ya := blk_lt (S.box _ m0)
  have Za := free_of (S.box _ m0)
  (try simp only at Ra ya Za)
  go_enter Tryz.func145, Tryz.ntmps145
  go_wp2_with fail
  go_end0
  exact ⟨rfl, S.put 4 _⟩
theorem at6a {cur : Array Value} {a : O} (hc : cur.toList = [a].flatMap O.cells) : cur[0]? = some (.int .i64 a.kind) ∧ cur[1]? = some (.bool a.exec) ∧ cur[2]? = some (.int .i64 a.n) ∧ cur[3]? = some (.int .i64 a.pos) ∧ cur[4]? = some (.int .i64 a.len) ∧ cur[5]? = some (.string a.s) := at6 (m := 0) hc rfl
theorem at6b {cur : Array Value} {a b : O} (hc : cur.toList = [a, b].flatMap O.cells) : (cur[0]? = some (.int .i64 a.kind) ∧ cur[1]? = some (.bool a.exec) ∧ cur[2]? = some (.int .i64 a.n) ∧ cur[3]? = some (.int .i64 a.pos) ∧ cur[4]? = some (.int .i64 a.len) ∧ cur[5]? = some (.string a.s)) ∧
    cur[6]? = some (.int .i64 b.kind) ∧ cur[7]? = some (.bool b.exec) ∧ cur[8]? = some (.int .i64 b.n) ∧ cur[9]? = some (.int .i64 b.pos) ∧ cur[10]? = some (.int .i64 b.len) ∧ cur[11]? = some (.string b.s) := ⟨at6 (m := 0) hc rfl, at6 (m := 1) hc rfl⟩
theorem size6 {cur : Array Value} {ops : List O} (hc : cur.toList = ops.flatMap O.cells) : cur.size = ops.length * 6 := by rw [← Array.length_toList, hc, flat_length O.cells 6 cells_length]
set_option maxRecDepth 100000 in
set_option maxHeartbeats 1000000 in
theorem m_def {w0 w : World} {M M' : List (Nat × List C)} {KB : List (Nat × Obj)} {cp hp sp wb g : Nat} {ds ds' l : List O} {a b : O} {gv : Value} {cur : Array Value} {e : Int} (S : TabAt w0 w M KB cp hp sp ds l) (hw : (wb, wkBox hp cp sp (.slice (some ⟨g, 0, none⟩) 2 2) gv) ∈ KB) (hg : (g, .cells cur 38) ∈ KB) (hc : cur.toList = [a, b].flatMap O.cells)
    (H : ∀ w', TabAt w0 w' M KB cp hp sp ds l → Calls Tryz.prog 28 #[ptr cp, a.val, b.val] w' fun r w2 => r = .returned (.int .i64 e) ∧ TabAt w0 w2 M' KB cp hp sp ds' l) :
    Calls Tryz.prog 87 #[ptr wb] w fun r w2 => r = .returned (.int .i64 e) ∧ TabAt w0 w2 M' KB cp hp sp ds' l := by
  obtain ⟨⟨q0, q1, q2, q3, q4, q5⟩, p0, p1, p2, p3, p4, p5⟩ := at6b hc
  obtain ⟨ak, ax, an, ap, al, aS⟩ := a
  obtain ⟨bk, bx, bn, bp, bl, bs⟩ := b
  simp only at q0 q1 q2 q3 q4 q5 p0 p1 p2 p3 p4 p5
  have HH := hid' H
  have HS := hid' S
  have RW := TB.cells (w0 := w0) (cp := cp) (hp := hp) (sp := sp) hw
  have RG := TB.cells (w0 := w0) (cp := cp) (hp := hp) (sp := sp) hg
  have lw := blk_lt (S.box _ hw)
  have lg := blk_lt (S.box _ hg)
  simp only at lw lg
  have hS1 := TB.of S
  clear H hw hg S hc
  go_enter Tryz.func87, Tryz.ntmps87
  go_wp2_with fail
  go_region_held3 (fun W' => TB w0 cp hp sp KB W') (first | (with_reducible assumption) | (with_reducible exact TB.of S4) | (with_reducible exact TB.drew (by with_reducible assumption)))
    ((go_at_call 28; refine (HH.out _ (by first | exact HS.out | exact HS.out.drew)).mono ?_; rintro r w4 ⟨rfl, S4⟩))
  go_wp2_with fail
  go_ret
  exact ⟨rfl, S4⟩
set_option maxRecDepth 100000 in
set_option maxHeartbeats 1000000 in
theorem m_store {w0 w : World} {M M' : List (Nat × List C)} {KB : List (Nat × Obj)} {cp hp sp wb g : Nat} {ds ds' l : List O} {a b : O} {gv : Value} {cur : Array Value} {e : Int} (S : TabAt w0 w M KB cp hp sp ds l) (hw : (wb, wkBox hp cp sp (.slice (some ⟨g, 0, none⟩) 2 2) gv) ∈ KB) (hg : (g, .cells cur 38) ∈ KB) (hc : cur.toList = [a, b].flatMap O.cells)
    (H : ∀ w', TabAt w0 w' M KB cp hp sp ds l → Calls Tryz.prog 148 #[ptr cp, a.val, b.val] w' fun r w2 => r = .returned (.int .i64 e) ∧ TabAt w0 w2 M' KB cp hp sp ds' l) :
    Calls Tryz.prog 89 #[ptr wb] w fun r w2 => r = .returned (.int .i64 e) ∧ TabAt w0 w2 M' KB cp hp sp ds' l := by
  obtain ⟨⟨q0, q1, q2, q3, q4, q5⟩, p0, p1, p2, p3, p4, p5⟩ := at6b hc
  obtain ⟨ak, ax, an, ap, al, aS⟩ := a
  obtain ⟨bk, bx, bn, bp, bl, bs⟩ := b
  simp only at q0 q1 q2 q3 q4 q5 p0 p1 p2 p3 p4 p5
  have HH := hid' H
  have HS := hid' S
  have RW := TB.cells (w0 := w0) (cp := cp) (hp := hp) (sp := sp) hw
  have RG := TB.cells (w0 := w0) (cp := cp) (hp := hp) (sp := sp) hg
  have lw := blk_lt (S.box _ hw)
  have lg := blk_lt (S.box _ hg)
  simp only at lw lg
  have hS1 := TB.of S
  clear H hw hg S hc
  go_enter Tryz.func89, Tryz.ntmps89
  go_wp2_with fail
  go_region_held3 (fun W' => TB w0 cp hp sp KB W') (first | (with_reducible assumption) | (with_reducible exact TB.of S4) | (with_reducible exact TB.drew (by with_reducible assumption)))
    ((go_at_call 148; refine (HH.out _ (by first | exact HS.out | exact HS.out.drew)).mono ?_; rintro r w4 ⟨rfl, S4⟩))
  go_wp2_with fail
  go_ret
  exact ⟨rfl, S4⟩
set_option maxRecDepth 100000 in
set_option maxHeartbeats 1000000 in
theorem m_undef {w0 w : World} {M M' : List (Nat × List C)} {KB : List (Nat × Obj)} {cp hp sp wb g : Nat} {ds ds' l : List O} {a b : O} {gv : Value} {cur : Array Value} {e : Int} (S : TabAt w0 w M KB cp hp sp ds l) (hw : (wb, wkBox hp cp sp (.slice (some ⟨g, 0, none⟩) 2 2) gv) ∈ KB) (hg : (g, .cells cur 38) ∈ KB) (hc : cur.toList = [a, b].flatMap O.cells)
    (H : ∀ w', TabAt w0 w' M KB cp hp sp ds l → Calls Tryz.prog 150 #[ptr hp, a.val, b.val] w' fun r w2 => r = .returned (.int .i64 e) ∧ TabAt w0 w2 M' KB cp hp sp ds' l) :
    Calls Tryz.prog 91 #[ptr wb] w fun r w2 => r = .returned (.int .i64 e) ∧ TabAt w0 w2 M' KB cp hp sp ds' l := by
  obtain ⟨⟨q0, q1, q2, q3, q4, q5⟩, p0, p1, p2, p3, p4, p5⟩ := at6b hc
  obtain ⟨ak, ax, an, ap, al, aS⟩ := a
  obtain ⟨bk, bx, bn, bp, bl, bs⟩ := b
  simp only at q0 q1 q2 q3 q4 q5 p0 p1 p2 p3 p4 p5
  have HH := hid' H
  have HS := hid' S
  have RW := TB.cells (w0 := w0) (cp := cp) (hp := hp) (sp := sp) hw
  have RG := TB.cells (w0 := w0) (cp := cp) (hp := hp) (sp := sp) hg
  have lw := blk_lt (S.box _ hw)
  have lg := blk_lt (S.box _ hg)
  simp only at lw lg
  have hS1 := TB.of S
  clear H hw hg S hc
  go_enter Tryz.func91, Tryz.ntmps91
  go_wp2_with fail
  go_region_held3 (fun W' => TB w0 cp hp sp KB W') (first | (with_reducible assumption) | (with_reducible exact TB.of S4) | (with_reducible exact TB.drew (by with_reducible assumption)))
    ((go_at_call 150; refine (HH.out _ (by first | exact HS.out | exact HS.out.drew)).mono ?_; rintro r w4 ⟨rfl, S4⟩))
  go_wp2_with fail
  go_ret
  exact ⟨rfl, S4⟩
set_option maxRecDepth 100000 in
set_option maxHeartbeats 1000000 in
theorem m_begin {w0 w : World} {M M' : List (Nat × List C)} {KB : List (Nat × Obj)} {cp hp sp wb g : Nat} {ds ds' l : List O} {a : O} {gv : Value} {cur : Array Value} {e : Int} (S : TabAt w0 w M KB cp hp sp ds l) (hw : (wb, wkBox hp cp sp (.slice (some ⟨g, 0, none⟩) 1 1) gv) ∈ KB) (hg : (g, .cells cur 38) ∈ KB) (hc : cur.toList = [a].flatMap O.cells)
    (H : ∀ w', TabAt w0 w' M KB cp hp sp ds l → Calls Tryz.prog 146 #[ptr cp, a.val] w' fun r w2 => r = .returned (.int .i64 e) ∧ TabAt w0 w2 M' KB cp hp sp ds' l) :
    Calls Tryz.prog 85 #[ptr wb] w fun r w2 => r = .returned (.int .i64 e) ∧ TabAt w0 w2 M' KB cp hp sp ds' l := by
  obtain ⟨q0, q1, q2, q3, q4, q5⟩ := at6a hc
  obtain ⟨ak, ax, an, ap, al, aS⟩ := a
  simp only at q0 q1 q2 q3 q4 q5
  have HH := hid' H
  have HS := hid' S
  have RW := TB.cells (w0 := w0) (cp := cp) (hp := hp) (sp := sp) hw
  have RG := TB.cells (w0 := w0) (cp := cp) (hp := hp) (sp := sp) hg
  have lw := blk_lt (S.box _ hw)
  have lg := blk_lt (S.box _ hg)
  simp only at lw lg
  have hS1 := TB.of S
  clear H hw hg S hc
  go_enter Tryz.func85, Tryz.ntmps85
  go_wp2_with fail
  go_region_held3 (fun W' => TB w0 cp hp sp KB W') (first | (with_reducible assumption) | (with_reducible exact TB.of S4) | (with_reducible exact TB.drew (by with_reducible assumption)))
    ((go_at_call 146; refine (HH.out _ (by first | exact HS.out | exact HS.out.drew)).mono ?_; rintro r w4 ⟨rfl, S4⟩))
  go_wp2_with fail
  go_ret
  exact ⟨rfl, S4⟩
set_option maxRecDepth 100000 in
set_option maxHeartbeats 1000000 in
theorem m_end {w0 w : World} {M M' : List (Nat × List C)} {KB : List (Nat × Obj)} {cp hp sp wb : Nat} {ds ds' l : List O} {lv gv : Value} {e : Int} (S : TabAt w0 w M KB cp hp sp ds l) (hw : (wb, wkBox hp cp sp lv gv) ∈ KB)
    (H : ∀ w', TabAt w0 w' M KB cp hp sp ds l → Calls Tryz.prog 147 #[ptr cp] w' fun r w2 => r = .returned (.int .i64 e) ∧ TabAt w0 w2 M' KB cp hp sp ds' l) :
    Calls Tryz.prog 86 #[ptr wb] w fun r w2 => r = .returned (.int .i64 e) ∧ TabAt w0 w2 M' KB cp hp sp ds' l := by
  have HH := hid' H
  have HS := hid' S
  (try clear Ra); (try clear ya); (try clear Za)
  have Ra := cells_of (S.box _ hw)
  have ya := blk_lt (S.box _ hw)
  (try simp only at Ra ya)
  clear H
  go_enter Tryz.func86, Tryz.ntmps86
  go_wp2_with fail
  refine (HH.out _ (by first | exact HS.out | exact HS.out.drew)).mono ?_
  rintro r w4 ⟨rfl, S4⟩
  go_wp2_with fail
  go_ret
  exact ⟨rfl, S4⟩
end Go.Proofs.YtpgkjgceldleaaaGreat
/- Walks: the methods of table that give: load, where. -/
namespace Go.Proofs.YtpgkjgceldleaaaGreat
open Go.RowKit

/-- What was given lies in a row. -/
def GV (E : List (Nat × Obj)) (v : Value) (gv : List O) : Prop := (v = .slice none 0 0 ∧ gv = []) ∨ ∃ nb cur k, v = .slice (some ⟨nb, 0, none⟩) k k ∧ (nb, Obj.cells cur 38) ∈ E ∧ cur.toList = gv.flatMap O.cells ∧ gv.length = k
/-- Behind a method: its answer, and what it gave. -/
def Gave (w0 : World) (M : List (Nat × List C)) (K : List (Nat × Obj)) (cp hp sp : Nat) (ds l : List O) (wb n : Nat) (gv : List O) (e : Int) (r : Ending) (w' : World) : Prop :=
  r = .returned (.int .i64 e) ∧ ∃ a c v E, TabAt w0 w' M ((wb, wkBox hp cp sp (.slice a n c) v) :: (E ++ K)) cp hp sp ds l ∧ GV E v gv
theorem TabAt.two_old {w0 w : World} {M : List (Nat × List C)} {KB : List (Nat × Obj)} {cp hp sp p q : Nat} {ds l : List O} {c0 c1 c2 c3 c4 c5 b0 b1 b2 b3 b4 b5 : Value} {T T' : TypeId} (S : TabAt w0 w M ((q, .cells #[c0, c1, c2, c3, c4, c5] T) :: (p, .cells #[b0, b1, b2, b3, b4, b5] T') :: KB) cp hp sp ds l)
    (vk : Int) (vx : Bool) (vn vp vl : Int) (vs : ByteArray) (dk : Int) (dx : Bool) (dn dp dl : Int) (dS : ByteArray) : TabAt w0 ((((((((((((w.setCell ⟨p, 0, none⟩ (.int .i64 vk)).setCell ⟨p, 1, none⟩ (.bool vx)).setCell ⟨p, 2, none⟩ (.int .i64 vn)).setCell ⟨p, 3, none⟩ (.int .i64 vp)).setCell ⟨p, 4, none⟩ (.int .i64 vl)).setCell ⟨p, 5, none⟩ (.string vs)).setCell ⟨q, 0, none⟩ (.int .i64 dk)).setCell ⟨q, 1, none⟩ (.bool dx)).setCell ⟨q, 2, none⟩ (.int .i64 dn)).setCell ⟨q, 3, none⟩ (.int .i64 dp)).setCell ⟨q, 4, none⟩ (.int .i64 dl)).setCell ⟨q, 5, none⟩ (.string dS)) M
      ((p, .cells #[.int .i64 vk, .bool vx, .int .i64 vn, .int .i64 vp, .int .i64 vl, .string vs] T') :: (q, .cells #[.int .i64 dk, .bool dx, .int .i64 dn, .int .i64 dp, .int .i64 dl, .string dS] T) :: KB) cp hp sp ds l :=
  (((S.perm (List.Perm.swap _ _ _)).putO vk vx vn vp vl vs).perm (List.Perm.swap _ _ _)).putO dk dx dn dp dl dS |>.perm (List.Perm.swap _ _ _)
theorem TabAt.two_new {w0 w : World} {M : List (Nat × List C)} {KB : List (Nat × Obj)} {cp hp sp p q : Nat} {ds l : List O} {c0 c1 c2 c3 c4 c5 b0 b1 b2 b3 b4 b5 : Value} {T T' : TypeId} (S : TabAt w0 w M ((q, .cells #[c0, c1, c2, c3, c4, c5] T) :: (p, .cells #[b0, b1, b2, b3, b4, b5] T') :: KB) cp hp sp ds l)
    (vk : Int) (vx : Bool) (vn vp vl : Int) (vs : ByteArray) (dk : Int) (dx : Bool) (dn dp dl : Int) (dS : ByteArray) : TabAt w0 ((((((((((((w.setCell ⟨q, 0, none⟩ (.int .i64 vk)).setCell ⟨q, 1, none⟩ (.bool vx)).setCell ⟨q, 2, none⟩ (.int .i64 vn)).setCell ⟨q, 3, none⟩ (.int .i64 vp)).setCell ⟨q, 4, none⟩ (.int .i64 vl)).setCell ⟨q, 5, none⟩ (.string vs)).setCell ⟨p, 0, none⟩ (.int .i64 dk)).setCell ⟨p, 1, none⟩ (.bool dx)).setCell ⟨p, 2, none⟩ (.int .i64 dn)).setCell ⟨p, 3, none⟩ (.int .i64 dp)).setCell ⟨p, 4, none⟩ (.int .i64 dl)).setCell ⟨p, 5, none⟩ (.string dS)) M
      ((q, .cells #[.int .i64 vk, .bool vx, .int .i64 vn, .int .i64 vp, .int .i64 vl, .string vs] T) :: (p, .cells #[.int .i64 dk, .bool dx, .int .i64 dn, .int .i64 dp, .int .i64 dl, .string dS] T') :: KB) cp hp sp ds l :=
  ((S.putO vk vx vn vp vl vs).perm (List.Perm.swap _ _ _)).putO dk dx dn dp dl dS |>.perm (List.Perm.swap _ _ _)
/-- Behind Find: two boxes. -/
def LC (w0 : World) (M : List (Nat × List C)) (KB : List (Nat × Obj)) (cp hp sp : Nat) (ds l : List O) (v d : O) (e : Int) (s3 s4 s5 : Value) (wx : World) : Prop :=
  s5 = .int .i64 e ∧ ∃ q p, s3 = ptr q ∧ s4 = ptr p ∧ TabAt w0 wx M ((q, .cells v.cells.toArray 38) :: (p, .cells d.cells.toArray 38) :: KB) cp hp sp ds l
theorem truth20 (b : Bool) (w : World) : Calls Tryz.prog 149 #[.bool b] w fun e w' => e = .returned (bO b).val ∧ Chg NoB w w' := by
  cases b
  all_goals
    go_enter Tryz.func149, Tryz.ntmps149
    go_wp2_with fail
    refine bodyPost_ret (v := O.val (bO _)) ?_ rfl ⟨rfl, ?_⟩
    · simp [results, Tryz.results149, go_sem, bO]
    · exact ((Chg.refl NoB w).alloc _).alloc _
set_option maxRecDepth 100000 in
set_option maxHeartbeats 4000000 in
theorem m_load {w0 w : World} {M : List (Nat × List C)} {K : List (Nat × Obj)} {cp hp sp wb g : Nat} {ds l : List O} {a v d : O} {cur : Array Value} {e : Int} (S : TabAt w0 w M ((wb, wkBox hp cp sp (.slice (some ⟨g, 0, none⟩) 1 1) (.slice none 0 0)) :: K) cp hp sp ds l) (hg : (g, .cells cur 38) ∈ K) (hc : cur.toList = [a].flatMap O.cells)
    (H : ∀ w' K', TabAt w0 w' M K' cp hp sp ds l → Calls Tryz.prog 70 #[ptr cp, a.val] w' fun r w2 => r = .returned (.tuple #[v.val, d.val, .int .i64 e]) ∧ TabAt w0 w2 M K' cp hp sp ds l) :
    Calls Tryz.prog 88 #[ptr wb] w (Gave w0 M K cp hp sp ds l wb 1 [v] e) := by
  obtain ⟨q0, q1, q2, q3, q4, q5⟩ := at6a hc
  obtain ⟨ak, ax, an, ap, al, aS⟩ := a
  obtain ⟨vk, vx, vn, vp, vl, vs⟩ := v
  obtain ⟨uk, ux, un, up, ul, us⟩ := d
  simp only at q0 q1 q2 q3 q4 q5
  obtain ⟨KB, hKB⟩ : ∃ KB, KB = (wb, wkBox hp cp sp (.slice (some ⟨g, 0, none⟩) 1 1) (.slice none 0 0)) :: K := ⟨_, rfl⟩
  have hw : (wb, wkBox hp cp sp (.slice (some ⟨g, 0, none⟩) 1 1) (.slice none 0 0)) ∈ KB := by rw [hKB]; exact m0
  have hg' : (g, Obj.cells cur 38) ∈ KB := by rw [hKB]; exact List.mem_cons_of_mem _ hg
  rw [← hKB] at S
  have HKB := hid' hKB
  have HH := hid' H
  have HS := hid' S
  have HA1 : Hid (∀ o, TabAt w0 (w.alloc o).drew M ((w.heap.size, o) :: KB) cp hp sp ds l) := hid' (fun o => (S.alloc o).drew)
  have HA2 : Hid (∀ o o', TabAt w0 ((w.alloc o).alloc o').drew M ((w.heap.size + 1, o') :: (w.heap.size, o) :: KB) cp hp sp ds l) := hid' (fun o o' => by
    have h := ((S.alloc o).alloc o').drew
    rwa [World.size_alloc] at h)
  have RW := TB.cells (w0 := w0) (cp := cp) (hp := hp) (sp := sp) hw
  have RG := TB.cells (w0 := w0) (cp := cp) (hp := hp) (sp := sp) hg'
  have lw := blk_lt (S.box _ hw)
  have lg := blk_lt (S.box _ hg')
  simp only at lw lg
  have hS1 := TB.of S
  clear H hw hg hg' S hc hKB
  go_enter Tryz.func88, Tryz.ntmps88
  go_wp2_with fail
  go_cut [3, 4, 5] (fun s3 s4 s5 wx => LC w0 M KB cp hp sp ds l ⟨vk, vx, vn, vp, vl, vs⟩ ⟨uk, ux, un, up, ul, us⟩ e s3 s4 s5 wx)
  case first =>
    go_region_held3 (fun W' => TB w0 cp hp sp KB W') (first | (with_reducible assumption) | (with_reducible exact TB.of S4) | (with_reducible exact TB.more S4) | (with_reducible exact TB.more2 S4) | (with_reducible exact TB.drew (by with_reducible assumption)) | (with_reducible exact TB.alloc (by with_reducible assumption) _) | (with_reducible exact TB.alloc (TB.of S4) _) | (with_reducible exact TB.alloc (TB.more S4) _) | (with_reducible exact TB.alloc (TB.alloc (TB.of S4) _) _) | (with_reducible exact TB.drew (TB.alloc (by with_reducible assumption) _)) | (with_reducible exact TB.drew (TB.alloc (TB.alloc (by with_reducible assumption) _) _)))
      ((go_at_call 70; refine (HH.out _ _ (by first | (with_reducible exact HS.out.drew) | (with_reducible exact HA1.out _) | (with_reducible exact HA2.out _ _) | (with_reducible exact HS.out))).mono ?_; rintro r w4 ⟨rfl, S4⟩; (try (with_reducible have yz : w.heap.size < w4.heap.size := blk_lt (S4.box _ m0))); (try (with_reducible have Rz : ∀ i, w4.cell? ⟨w.heap.size, i, none⟩ = #[Value.int .i64 0, .bool false, .int .i64 0, .int .i64 0, .int .i64 0, .string ⟨#[]⟩][i]? := cells_of (S4.box _ m0))); (try (with_reducible have Zz : ∀ i, w4.frozen? ⟨w.heap.size, i, none⟩ = false := free_of (S4.box _ m0))); (try (with_reducible have yz : w.heap.size < w4.heap.size := blk_lt (S4.box _ m1))); (try (with_reducible have Rz : ∀ i, w4.cell? ⟨w.heap.size, i, none⟩ = #[Value.int .i64 0, .bool false, .int .i64 0, .int .i64 0, .int .i64 0, .string ⟨#[]⟩][i]? := cells_of (S4.box _ m1))); (try (with_reducible have Zz : ∀ i, w4.frozen? ⟨w.heap.size, i, none⟩ = false := free_of (S4.box _ m1))); (try (with_reducible have yx : w.heap.size + 1 < w4.heap.size := blk_lt (S4.box _ m0))); (try (with_reducible have Rx : ∀ i, w4.cell? ⟨w.heap.size + 1, i, none⟩ = #[Value.int .i64 0, .bool false, .int .i64 0, .int .i64 0, .int .i64 0, .string ⟨#[]⟩][i]? := cells_of (S4.box _ m0))); (try (with_reducible have Zx : ∀ i, w4.frozen? ⟨w.heap.size + 1, i, none⟩ = false := free_of (S4.box _ m0))); (try (with_reducible have t1 := TB.more (S4.putO vk vx vn vp vl vs))); (try (with_reducible have t2 := TB.more (S4.putO uk ux un up ul us))); (try (with_reducible have t3 := TB.more2 ((S4.perm (List.Perm.swap _ _ _)).putO vk vx vn vp vl vs))); (try (with_reducible have t4 := TB.more2 (S4.two_old vk vx vn vp vl vs uk ux un up ul us))); (try (with_reducible have t5 := TB.more2 (S4.putO vk vx vn vp vl vs))); (try (with_reducible have t6 := TB.more2 (S4.two_new vk vx vn vp vl vs uk ux un up ul us)))))
    all_goals
      go_wp2_with fail
      go_meet
    · have S5 := (S4.alloc (Obj.cells #[.int .i64 vk, .bool vx, .int .i64 vn, .int .i64 vp, .int .i64 vl, .string vs] 38)).alloc (Obj.cells #[.int .i64 uk, .bool ux, .int .i64 un, .int .i64 up, .int .i64 ul, .string us] 38)
      simp only [World.size_alloc] at S5
      exact ⟨rfl, _, _, rfl, rfl, S5.perm (List.Perm.swap _ _ _)⟩
    · have S5 := (S4.alloc (Obj.cells #[.int .i64 uk, .bool ux, .int .i64 un, .int .i64 up, .int .i64 ul, .string us] 38)).alloc (Obj.cells #[.int .i64 vk, .bool vx, .int .i64 vn, .int .i64 vp, .int .i64 vl, .string vs] 38)
      simp only [World.size_alloc] at S5
      exact ⟨rfl, _, _, rfl, rfl, S5⟩
    · have S5 := (S4.putO vk vx vn vp vl vs).alloc (Obj.cells #[.int .i64 uk, .bool ux, .int .i64 un, .int .i64 up, .int .i64 ul, .string us] 38)
      simp only [World.size_setCell] at S5
      exact ⟨rfl, _, _, rfl, rfl, S5.perm (List.Perm.swap _ _ _)⟩
    · exact ⟨rfl, _, _, rfl, rfl, S4.two_old vk vx vn vp vl vs uk ux un up ul us⟩
    · have S5 := (S4.putO uk ux un up ul us).alloc (Obj.cells #[.int .i64 vk, .bool vx, .int .i64 vn, .int .i64 vp, .int .i64 vl, .string vs] 38)
      simp only [World.size_setCell] at S5
      exact ⟨rfl, _, _, rfl, rfl, S5⟩
    · exact ⟨rfl, _, _, rfl, rfl, S4.two_new vk vx vn vp vl vs uk ux un up ul us⟩
  case rest =>
    obtain ⟨rfl, q, p, rfl, rfl, S4⟩ := hcut
    have S4 : TabAt w0 _ M ((q, Obj.cells #[.int .i64 vk, .bool vx, .int .i64 vn, .int .i64 vp, .int .i64 vl, .string vs] 38) :: (p, Obj.cells #[.int .i64 uk, .bool ux, .int .i64 un, .int .i64 up, .int .i64 ul, .string us] 38) :: KB) cp hp sp ds l := S4
    rw [HKB.out] at S4
    (try clear Rz); (try clear yz); (try clear Zz)
    have Rz := cells_of (S4.box _ m0)
    have yz := blk_lt (S4.box _ m0)
    (try simp only at Rz yz)
    have S5 := S4.alloc (Obj.cells #[.int .i64 vk, .bool vx, .int .i64 vn, .int .i64 vp, .int .i64 vl, .string vs] 38)
    have S6 := S5.perm (List.perm_middle (l₁ := [_, _, _]))
    clear S4 S5 HH HS HA1 HA2 RW RG lw lg hS1
    go_wp2_with fail
    refine (give_any S6 _ 1 1).mono ?_
    rintro r w6 ⟨rfl, S7⟩
    go_wp2_with fail
    go_ret
    exact ⟨rfl, _, _, _, [_, _, _], S7, .inr ⟨_, _, 1, rfl, m0, rfl, rfl⟩⟩
set_option maxRecDepth 100000 in
set_option maxHeartbeats 4000000 in
theorem m_where {w0 w : World} {M : List (Nat × List C)} {K : List (Nat × Obj)} {cp hp sp wb g : Nat} {ds l : List O} {a v d : O} {cur : Array Value} (S : TabAt w0 w M ((wb, wkBox hp cp sp (.slice (some ⟨g, 0, none⟩) 1 1) (.slice none 0 0)) :: K) cp hp sp ds l) (hg : (g, .cells cur 38) ∈ K) (hc : cur.toList = [a].flatMap O.cells)
    (H : ∀ w' K', TabAt w0 w' M K' cp hp sp ds l → Calls Tryz.prog 70 #[ptr cp, a.val] w' fun r w2 => r = .returned (.tuple #[v.val, d.val, .int .i64 0]) ∧ TabAt w0 w2 M K' cp hp sp ds l) :
    Calls Tryz.prog 92 #[ptr wb] w (Gave w0 M K cp hp sp ds l wb 1 [d, bO true] 0) := by
  obtain ⟨q0, q1, q2, q3, q4, q5⟩ := at6a hc
  obtain ⟨ak, ax, an, ap, al, aS⟩ := a
  obtain ⟨vk, vx, vn, vp, vl, vs⟩ := v
  obtain ⟨uk, ux, un, up, ul, us⟩ := d
  simp only at q0 q1 q2 q3 q4 q5
  obtain ⟨KB, hKB⟩ : ∃ KB, KB = (wb, wkBox hp cp sp (.slice (some ⟨g, 0, none⟩) 1 1) (.slice none 0 0)) :: K := ⟨_, rfl⟩
  have hw : (wb, wkBox hp cp sp (.slice (some ⟨g, 0, none⟩) 1 1) (.slice none 0 0)) ∈ KB := by rw [hKB]; exact m0
  have hg' : (g, Obj.cells cur 38) ∈ KB := by rw [hKB]; exact List.mem_cons_of_mem _ hg
  rw [← hKB] at S
  have HKB := hid' hKB
  have HH := hid' H
  have HS := hid' S
  have HA1 : Hid (∀ o, TabAt w0 (w.alloc o).drew M ((w.heap.size, o) :: KB) cp hp sp ds l) := hid' (fun o => (S.alloc o).drew)
  have HA2 : Hid (∀ o o', TabAt w0 ((w.alloc o).alloc o').drew M ((w.heap.size + 1, o') :: (w.heap.size, o) :: KB) cp hp sp ds l) := hid' (fun o o' => by
    have h := ((S.alloc o).alloc o').drew
    rwa [World.size_alloc] at h)
  have RW := TB.cells (w0 := w0) (cp := cp) (hp := hp) (sp := sp) hw
  have RG := TB.cells (w0 := w0) (cp := cp) (hp := hp) (sp := sp) hg'
  have lw := blk_lt (S.box _ hw)
  have lg := blk_lt (S.box _ hg')
  simp only at lw lg
  have hS1 := TB.of S
  clear H hw hg hg' S hc hKB
  go_enter Tryz.func92, Tryz.ntmps92
  go_wp2_with fail
  go_cut [3, 4, 5] (fun s3 s4 s5 wx => LC w0 M KB cp hp sp ds l ⟨vk, vx, vn, vp, vl, vs⟩ ⟨uk, ux, un, up, ul, us⟩ 0 s3 s4 s5 wx)
  case first =>
    go_region_held3 (fun W' => TB w0 cp hp sp KB W') (first | (with_reducible assumption) | (with_reducible exact TB.of S4) | (with_reducible exact TB.more S4) | (with_reducible exact TB.more2 S4) | (with_reducible exact TB.drew (by with_reducible assumption)) | (with_reducible exact TB.alloc (by with_reducible assumption) _) | (with_reducible exact TB.alloc (TB.of S4) _) | (with_reducible exact TB.alloc (TB.more S4) _) | (with_reducible exact TB.alloc (TB.alloc (TB.of S4) _) _) | (with_reducible exact TB.drew (TB.alloc (by with_reducible assumption) _)) | (with_reducible exact TB.drew (TB.alloc (TB.alloc (by with_reducible assumption) _) _)))
      ((go_at_call 70; refine (HH.out _ _ (by first | (with_reducible exact HS.out.drew) | (with_reducible exact HA1.out _) | (with_reducible exact HA2.out _ _) | (with_reducible exact HS.out))).mono ?_; rintro r w4 ⟨rfl, S4⟩; (try (with_reducible have yz : w.heap.size < w4.heap.size := blk_lt (S4.box _ m0))); (try (with_reducible have Rz : ∀ i, w4.cell? ⟨w.heap.size, i, none⟩ = #[Value.int .i64 0, .bool false, .int .i64 0, .int .i64 0, .int .i64 0, .string ⟨#[]⟩][i]? := cells_of (S4.box _ m0))); (try (with_reducible have Zz : ∀ i, w4.frozen? ⟨w.heap.size, i, none⟩ = false := free_of (S4.box _ m0))); (try (with_reducible have yz : w.heap.size < w4.heap.size := blk_lt (S4.box _ m1))); (try (with_reducible have Rz : ∀ i, w4.cell? ⟨w.heap.size, i, none⟩ = #[Value.int .i64 0, .bool false, .int .i64 0, .int .i64 0, .int .i64 0, .string ⟨#[]⟩][i]? := cells_of (S4.box _ m1))); (try (with_reducible have Zz : ∀ i, w4.frozen? ⟨w.heap.size, i, none⟩ = false := free_of (S4.box _ m1))); (try (with_reducible have yx : w.heap.size + 1 < w4.heap.size := blk_lt (S4.box _ m0))); (try (with_reducible have Rx : ∀ i, w4.cell? ⟨w.heap.size + 1, i, none⟩ = #[Value.int .i64 0, .bool false, .int .i64 0, .int .i64 0, .int .i64 0, .string ⟨#[]⟩][i]? := cells_of (S4.box _ m0))); (try (with_reducible have Zx : ∀ i, w4.frozen? ⟨w.heap.size + 1, i, none⟩ = false := free_of (S4.box _ m0))); (try (with_reducible have t1 := TB.more (S4.putO vk vx vn vp vl vs))); (try (with_reducible have t2 := TB.more (S4.putO uk ux un up ul us))); (try (with_reducible have t3 := TB.more2 ((S4.perm (List.Perm.swap _ _ _)).putO vk vx vn vp vl vs))); (try (with_reducible have t4 := TB.more2 (S4.two_old vk vx vn vp vl vs uk ux un up ul us))); (try (with_reducible have t5 := TB.more2 (S4.putO vk vx vn vp vl vs))); (try (with_reducible have t6 := TB.more2 (S4.two_new vk vx vn vp vl vs uk ux un up ul us)))))
    all_goals
      go_wp2_with fail
      go_meet
    · have S5 := (S4.alloc (Obj.cells #[.int .i64 vk, .bool vx, .int .i64 vn, .int .i64 vp, .int .i64 vl, .string vs] 38)).alloc (Obj.cells #[.int .i64 uk, .bool ux, .int .i64 un, .int .i64 up, .int .i64 ul, .string us] 38)
      simp only [World.size_alloc] at S5
      exact ⟨rfl, _, _, rfl, rfl, S5.perm (List.Perm.swap _ _ _)⟩
    · have S5 := (S4.alloc (Obj.cells #[.int .i64 uk, .bool ux, .int .i64 un, .int .i64 up, .int .i64 ul, .string us] 38)).alloc (Obj.cells #[.int .i64 vk, .bool vx, .int .i64 vn, .int .i64 vp, .int .i64 vl, .string vs] 38)
      simp only [World.size_alloc] at S5
      exact ⟨rfl, _, _, rfl, rfl, S5⟩
    · have S5 := (S4.putO vk vx vn vp vl vs).alloc (Obj.cells #[.int .i64 uk, .bool ux, .int .i64 un, .int .i64 up, .int .i64 ul, .string us] 38)
      simp only [World.size_setCell] at S5
      exact ⟨rfl, _, _, rfl, rfl, S5.perm (List.Perm.swap _ _ _)⟩
    · exact ⟨rfl, _, _, rfl, rfl, S4.two_old vk vx vn vp vl vs uk ux un up ul us⟩
    · have S5 := (S4.putO uk ux un up ul us).alloc (Obj.cells #[.int .i64 vk, .bool vx, .int .i64 vn, .int .i64 vp, .int .i64 vl, .string vs] 38)
      simp only [World.size_setCell] at S5
      exact ⟨rfl, _, _, rfl, rfl, S5⟩
    · exact ⟨rfl, _, _, rfl, rfl, S4.two_new vk vx vn vp vl vs uk ux un up ul us⟩
  case rest =>
    obtain ⟨rfl, q, p, rfl, rfl, S4⟩ := hcut
    have S4 : TabAt w0 _ M ((q, Obj.cells #[.int .i64 vk, .bool vx, .int .i64 vn, .int .i64 vp, .int .i64 vl, .string vs] 38) :: (p, Obj.cells #[.int .i64 uk, .bool ux, .int .i64 un, .int .i64 up, .int .i64 ul, .string us] 38) :: KB) cp hp sp ds l := S4
    rw [HKB.out] at S4
    have S5 := (S4.perm (List.perm_middle (l₁ := [_, _])))
    simp only [List.cons_append, List.nil_append] at S5
    obtain ⟨KD, hKD⟩ : ∃ KD, KD = (q, Obj.cells #[.int .i64 vk, .bool vx, .int .i64 vn, .int .i64 vp, .int .i64 vl, .string vs] 38) :: (p, Obj.cells #[.int .i64 uk, .bool ux, .int .i64 un, .int .i64 up, .int .i64 ul, .string us] 38) :: K := ⟨_, rfl⟩
    have hp2 : (p, Obj.cells #[.int .i64 uk, .bool ux, .int .i64 un, .int .i64 up, .int .i64 ul, .string us] 38) ∈ KD := by rw [hKD]; exact m1
    rw [← hKD] at S5
    have HKD := hid' hKD
    have lp := blk_lt (S5.box _ (List.mem_cons_of_mem _ hp2))
    simp only at lp
    have RP := TB.cells (w0 := w0) (cp := cp) (hp := hp) (sp := sp) hp2
    have HTR := hid' (fun w' => truth20 true w')
    have HGV := hid' (fun (W : World) (S' : TabAt w0 W M ((wb, wkBox hp cp sp (.slice (some ⟨g, 0, none⟩) 1 1) (.slice none 0 0)) :: KD) cp hp sp ds l) (o : Obj) => give_any ((S'.alloc o).perm (List.Perm.swap _ _ _)) (some ⟨W.heap.size, 0, none⟩) 2 2)
    clear S4 HH HS HA1 HA2 RW RG lw lg hS1 hKD hp2
    go_upto_region 6 with (fail)
    have hS1 : TB w0 cp hp sp KD _ := TB.more S5
    have HS := hid' S5
    clear S5
    go_region_held3 (fun W' => TB w0 cp hp sp KD W') (first | (with_reducible assumption) | (with_reducible exact TB.more S7) | (with_reducible exact TB.more2 S8) | (with_reducible exact TB.drew (by with_reducible assumption)) | (with_reducible exact TB.alloc (by with_reducible assumption) _) | (with_reducible exact TB.alloc (TB.more S7) _))
      (first
        | (go_at_call 149; refine (HTR.out _).mono ?_; rintro r w7 ⟨rfl, X7⟩; have S7 := (HS.out.drew.pure X7))
        | (go_at_call 145; refine (HGV.out _ S7 _).mono ?_; rintro r w8 ⟨rfl, S8⟩))
    go_wp2_with fail
    go_ret
    rw [HKD.out] at S8
    exact ⟨rfl, _, _, _, [_, _, _], S8, .inr ⟨_, _, 2, rfl, m0, rfl, rfl⟩⟩
end Go.Proofs.YtpgkjgceldleaaaGreat
/- Walks: the methods of table that give: known, dict, countDictStack, maxLength. -/
namespace Go.Proofs.YtpgkjgceldleaaaGreat
open Go.RowKit

/-- Behind a call that answers an object: a box. -/
def LC1 (w0 : World) (M : List (Nat × List C)) (KB : List (Nat × Obj)) (cp hp sp : Nat) (ds l : List O) (v : O) (e : Int) (s3 s4 : Value) (wx : World) : Prop :=
  s4 = .int .i64 e ∧ ∃ q, s3 = ptr q ∧ TabAt w0 wx M ((q, .cells v.cells.toArray 38) :: KB) cp hp sp ds l
theorem whole20 (v : Int) (h0 : -1073741823 ≤ v) (h1 : v ≤ 1073741823) (w : World) : Calls Tryz.prog 152 #[.int .i64 v] w fun e w' => e = .returned (.tuple #[(iO v).val, .bool true]) ∧ Chg NoB w w' := by
  go_enter Tryz.func152, Tryz.ntmps152
  go_wp2_with fail
  refine bodyPost_ret (v := .tuple #[(iO v).val, .bool true]) ?_ rfl ⟨rfl, (Chg.refl NoB w).alloc _⟩
  · simp [results, Tryz.results152, go_sem]; omega
set_option maxRecDepth 100000 in
set_option maxHeartbeats 4000000 in
theorem m_known {w0 w : World} {M : List (Nat × List C)} {K : List (Nat × Obj)} {cp hp sp wb g : Nat} {ds l : List O} {a b v : O} {cur : Array Value} {e : Int} (S : TabAt w0 w M ((wb, wkBox hp cp sp (.slice (some ⟨g, 0, none⟩) 2 2) (.slice none 0 0)) :: K) cp hp sp ds l) (hg : (g, .cells cur 38) ∈ K) (hc : cur.toList = [a, b].flatMap O.cells)
    (he : e = 0 ∨ e = 9) (H : ∀ w' K', TabAt w0 w' M K' cp hp sp ds l → Calls Tryz.prog 18 #[ptr hp, a.val, b.val] w' fun r w2 => r = .returned (.tuple #[v.val, .int .i64 e]) ∧ TabAt w0 w2 M K' cp hp sp ds l) :
    Calls Tryz.prog 90 #[ptr wb] w (Gave w0 M K cp hp sp ds l wb 2 [bO (decide (e = 0))] 0) := by
  obtain ⟨⟨q0, q1, q2, q3, q4, q5⟩, p0, p1, p2, p3, p4, p5⟩ := at6b hc
  obtain ⟨ak, ax, an, ap, al, aS⟩ := a
  obtain ⟨bk, bx, bn, bp, bl, bs⟩ := b
  obtain ⟨vk, vx, vn, vp, vl, vs⟩ := v
  simp only at q0 q1 q2 q3 q4 q5 p0 p1 p2 p3 p4 p5
  obtain ⟨KB, hKB⟩ : ∃ KB, KB = (wb, wkBox hp cp sp (.slice (some ⟨g, 0, none⟩) 2 2) (.slice none 0 0)) :: K := ⟨_, rfl⟩
  have hw : (wb, wkBox hp cp sp (.slice (some ⟨g, 0, none⟩) 2 2) (.slice none 0 0)) ∈ KB := by rw [hKB]; exact m0
  have hg' : (g, Obj.cells cur 38) ∈ KB := by rw [hKB]; exact List.mem_cons_of_mem _ hg
  rw [← hKB] at S
  have HKB := hid' hKB
  have HH := hid' H
  have HS := hid' S
  have HA1 : Hid (∀ o, TabAt w0 (w.alloc o).drew M ((w.heap.size, o) :: KB) cp hp sp ds l) := hid' (fun o => (S.alloc o).drew)
  have HA2 : Hid (∀ o o', TabAt w0 ((w.alloc o).alloc o').drew M ((w.heap.size + 1, o') :: (w.heap.size, o) :: KB) cp hp sp ds l) := hid' (fun o o' => by
    have h := ((S.alloc o).alloc o').drew
    rwa [World.size_alloc] at h)
  have RW := TB.cells (w0 := w0) (cp := cp) (hp := hp) (sp := sp) hw
  have RG := TB.cells (w0 := w0) (cp := cp) (hp := hp) (sp := sp) hg'
  have lw := blk_lt (S.box _ hw)
  have lg := blk_lt (S.box _ hg')
  simp only at lw lg
  have hS1 := TB.of S
  clear H hw hg hg' S hc hKB
  go_enter Tryz.func90, Tryz.ntmps90
  go_wp2_with fail
  go_cut [3, 4] (fun s3 s4 wx => LC1 w0 M KB cp hp sp ds l ⟨vk, vx, vn, vp, vl, vs⟩ e s3 s4 wx)
  case first =>
    go_region_held3 (fun W' => TB w0 cp hp sp KB W') (first | (with_reducible assumption) | (with_reducible exact TB.of S4) | (with_reducible exact TB.more S4) | (with_reducible exact TB.more2 S4) | (with_reducible exact TB.drew (by with_reducible assumption)) | (with_reducible exact TB.alloc (by with_reducible assumption) _) | (with_reducible exact TB.alloc (TB.of S4) _) | (with_reducible exact TB.alloc (TB.more S4) _) | (with_reducible exact TB.alloc (TB.alloc (TB.of S4) _) _) | (with_reducible exact TB.drew (TB.alloc (by with_reducible assumption) _)) | (with_reducible exact TB.drew (TB.alloc (TB.alloc (by with_reducible assumption) _) _)))
      ((go_at_call 18; refine (HH.out _ _ (by first | (with_reducible exact HS.out.drew) | (with_reducible exact HA1.out _) | (with_reducible exact HA2.out _ _) | (with_reducible exact HS.out))).mono ?_; rintro r w4 ⟨rfl, S4⟩; (try (with_reducible have yz : w.heap.size < w4.heap.size := blk_lt (S4.box _ m0))); (try (with_reducible have Rz : ∀ i, w4.cell? ⟨w.heap.size, i, none⟩ = #[Value.int .i64 0, .bool false, .int .i64 0, .int .i64 0, .int .i64 0, .string ⟨#[]⟩][i]? := cells_of (S4.box _ m0))); (try (with_reducible have Zz : ∀ i, w4.frozen? ⟨w.heap.size, i, none⟩ = false := free_of (S4.box _ m0))); (try (with_reducible have t1 := TB.more (S4.putO vk vx vn vp vl vs)))))
    all_goals
      go_wp2_with fail
      go_meet
    · exact ⟨rfl, _, rfl, S4.alloc (Obj.cells #[.int .i64 vk, .bool vx, .int .i64 vn, .int .i64 vp, .int .i64 vl, .string vs] 38)⟩
    · exact ⟨rfl, _, rfl, S4.putO vk vx vn vp vl vs⟩
  case rest =>
    obtain ⟨rfl, q, rfl, S4⟩ := hcut
    have S4 : TabAt w0 _ M ((q, Obj.cells #[.int .i64 vk, .bool vx, .int .i64 vn, .int .i64 vp, .int .i64 vl, .string vs] 38) :: KB) cp hp sp ds l := S4
    rw [HKB.out] at S4
    clear HH HS HA1 HA2 RW RG lw lg hS1
    rcases he with rfl | rfl
    · go_wp2_with fail
      refine (truth20 true _).mono ?_
      rintro r w5 ⟨rfl, X5⟩
      have S5 := S4.pure X5
      have S6 := (S5.alloc (.cells (bO true).cells.toArray 38)).perm (List.perm_middle (l₁ := [_, _]))
      clear S5 X5
      go_wp2_with fail
      refine (give_any S6 _ 1 1).mono ?_
      rintro r w6 ⟨rfl, S7⟩
      go_wp2_with fail
      go_ret
      exact ⟨rfl, _, _, _, [_, _], S7, .inr ⟨_, _, 1, rfl, m0, rfl, rfl⟩⟩
    · go_wp2_with fail
      refine (truth20 false _).mono ?_
      rintro r w5 ⟨rfl, X5⟩
      have S5 := S4.pure X5
      have S6 := (S5.alloc (.cells (bO false).cells.toArray 38)).perm (List.perm_middle (l₁ := [_, _]))
      clear S5 X5
      go_wp2_with fail
      refine (give_any S6 _ 1 1).mono ?_
      rintro r w6 ⟨rfl, S7⟩
      go_wp2_with fail
      go_ret
      exact ⟨rfl, _, _, _, [_, _], S7, .inr ⟨_, _, 1, rfl, m0, rfl, rfl⟩⟩
set_option maxRecDepth 100000 in
set_option maxHeartbeats 4000000 in
theorem m_dict {w0 w : World} {M M' : List (Nat × List C)} {K : List (Nat × Obj)} {cp hp sp wb g : Nat} {ds l : List O} {a v : O} {cur : Array Value} {e : Int} (S : TabAt w0 w M ((wb, wkBox hp cp sp (.slice (some ⟨g, 0, none⟩) 1 1) (.slice none 0 0)) :: K) cp hp sp ds l) (hg : (g, .cells cur 38) ∈ K) (hc : cur.toList = [a].flatMap O.cells)
    (H : ∀ w' K', TabAt w0 w' M K' cp hp sp ds l → Calls Tryz.prog 54 #[ptr hp, .int .i64 a.n] w' fun r w2 => r = .returned (.tuple #[v.val, .int .i64 e]) ∧ TabAt w0 w2 M' K' cp hp sp ds l) :
    Calls Tryz.prog 84 #[ptr wb] w (Gave w0 M' K cp hp sp ds l wb 1 [v] e) := by
  obtain ⟨q0, q1, q2, q3, q4, q5⟩ := at6a hc
  obtain ⟨ak, ax, an, ap, al, aS⟩ := a
  obtain ⟨vk, vx, vn, vp, vl, vs⟩ := v
  simp only at q0 q1 q2 q3 q4 q5
  obtain ⟨KB, hKB⟩ : ∃ KB, KB = (wb, wkBox hp cp sp (.slice (some ⟨g, 0, none⟩) 1 1) (.slice none 0 0)) :: K := ⟨_, rfl⟩
  have hw : (wb, wkBox hp cp sp (.slice (some ⟨g, 0, none⟩) 1 1) (.slice none 0 0)) ∈ KB := by rw [hKB]; exact m0
  have hg' : (g, Obj.cells cur 38) ∈ KB := by rw [hKB]; exact List.mem_cons_of_mem _ hg
  rw [← hKB] at S
  have HKB := hid' hKB
  have HH := hid' H
  have HS := hid' S
  have HA1 : Hid (∀ o, TabAt w0 (w.alloc o).drew M ((w.heap.size, o) :: KB) cp hp sp ds l) := hid' (fun o => (S.alloc o).drew)
  have HA2 : Hid (∀ o o', TabAt w0 ((w.alloc o).alloc o').drew M ((w.heap.size + 1, o') :: (w.heap.size, o) :: KB) cp hp sp ds l) := hid' (fun o o' => by
    have h := ((S.alloc o).alloc o').drew
    rwa [World.size_alloc] at h)
  have RW := TB.cells (w0 := w0) (cp := cp) (hp := hp) (sp := sp) hw
  have RG := TB.cells (w0 := w0) (cp := cp) (hp := hp) (sp := sp) hg'
  have lw := blk_lt (S.box _ hw)
  have lg := blk_lt (S.box _ hg')
  simp only at lw lg
  have hS1 := TB.of S
  clear H hw hg hg' S hc hKB
  go_enter Tryz.func84, Tryz.ntmps84
  go_wp2_with fail
  go_cut [3, 4] (fun s3 s4 wx => LC1 w0 M' KB cp hp sp ds l ⟨vk, vx, vn, vp, vl, vs⟩ e s3 s4 wx)
  case first =>
    go_region_held3 (fun W' => TB w0 cp hp sp KB W') (first | (with_reducible assumption) | (with_reducible exact TB.of S4) | (with_reducible exact TB.more S4) | (with_reducible exact TB.more2 S4) | (with_reducible exact TB.drew (by with_reducible assumption)) | (with_reducible exact TB.alloc (by with_reducible assumption) _) | (with_reducible exact TB.alloc (TB.of S4) _) | (with_reducible exact TB.alloc (TB.more S4) _) | (with_reducible exact TB.alloc (TB.alloc (TB.of S4) _) _) | (with_reducible exact TB.drew (TB.alloc (by with_reducible assumption) _)) | (with_reducible exact TB.drew (TB.alloc (TB.alloc (by with_reducible assumption) _) _)))
      ((go_at_call 54; refine (HH.out _ _ (by first | (with_reducible exact HS.out.drew) | (with_reducible exact HA1.out _) | (with_reducible exact HA2.out _ _) | (with_reducible exact HS.out))).mono ?_; rintro r w4 ⟨rfl, S4⟩; (try (with_reducible have yz : w.heap.size < w4.heap.size := blk_lt (S4.box _ m0))); (try (with_reducible have Rz : ∀ i, w4.cell? ⟨w.heap.size, i, none⟩ = #[Value.int .i64 0, .bool false, .int .i64 0, .int .i64 0, .int .i64 0, .string ⟨#[]⟩][i]? := cells_of (S4.box _ m0))); (try (with_reducible have Zz : ∀ i, w4.frozen? ⟨w.heap.size, i, none⟩ = false := free_of (S4.box _ m0))); (try (with_reducible have t1 := TB.more (S4.putO vk vx vn vp vl vs)))))
    all_goals
      go_wp2_with fail
      go_meet
    · exact ⟨rfl, _, rfl, S4.alloc (Obj.cells #[.int .i64 vk, .bool vx, .int .i64 vn, .int .i64 vp, .int .i64 vl, .string vs] 38)⟩
    · exact ⟨rfl, _, rfl, S4.putO vk vx vn vp vl vs⟩
  case rest =>
    obtain ⟨rfl, q, rfl, S4⟩ := hcut
    have S4 : TabAt w0 _ M' ((q, Obj.cells #[.int .i64 vk, .bool vx, .int .i64 vn, .int .i64 vp, .int .i64 vl, .string vs] 38) :: KB) cp hp sp ds l := S4
    rw [HKB.out] at S4
    clear HH HS HA1 HA2 RW RG lw lg hS1
    (try clear Rz); (try clear yz); (try clear Zz)
    have Rz := cells_of (S4.box _ m0)
    have yz := blk_lt (S4.box _ m0)
    (try simp only at Rz yz)
    have S5 := S4.alloc (Obj.cells #[.int .i64 vk, .bool vx, .int .i64 vn, .int .i64 vp, .int .i64 vl, .string vs] 38)
    have S6 := S5.perm (List.perm_middle (l₁ := [_, _]))
    clear S4 S5
    go_wp2_with fail
    refine (give_any S6 _ 1 1).mono ?_
    rintro r w6 ⟨rfl, S7⟩
    go_wp2_with fail
    go_ret
    exact ⟨rfl, _, _, _, [_, _], S7, .inr ⟨_, _, 1, rfl, m0, rfl, rfl⟩⟩
set_option maxRecDepth 100000 in
set_option maxHeartbeats 1000000 in
theorem m_countDictStack {w0 w : World} {M : List (Nat × List C)} {K : List (Nat × Obj)} {cp hp sp wb : Nat} {ds l : List O} {a : Option Addr} {n c : Nat} (S : TabAt w0 w M ((wb, wkBox hp cp sp (.slice a n c) (.slice none 0 0)) :: K) cp hp sp ds l) (hd : ds.length ≤ 1000) :
    Calls Tryz.prog 94 #[ptr wb] w (Gave w0 M K cp hp sp ds l wb n [iO ds.length] 0) := by
  have HD := hid' (S.scp (M' := M) (ds' := ds) (r := .int .i64 ds.length) (fun K' S' => (scp_depth S').mono fun e w' ⟨h1, h2⟩ => ⟨h1, h2 ▸ S'⟩))
  obtain ⟨m, hm⟩ : ∃ m, ds.length = m := ⟨_, rfl⟩
  rw [hm] at HD hd ⊢
  clear hm
  (try clear Ra); (try clear ya); (try clear Za)
  have Ra := cells_of (S.box _ m0)
  have ya := blk_lt (S.box _ m0)
  (try simp only at Ra ya)
  go_enter Tryz.func94, Tryz.ntmps94
  go_wp2_with fail
  refine HD.out.mono ?_
  rintro r w2 ⟨rfl, S2⟩
  go_wp2_with fail
  refine (whole20 m (by omega) (by omega) _).mono ?_
  rintro r w3 ⟨rfl, X3⟩
  have S3 := S2.pure X3
  have S4 := S3.alloc (.cells (iO m).cells.toArray 38)
  have S5 := S4.alloc (.cells (iO m).cells.toArray 38)
  have S6 := S5.perm (List.perm_middle (l₁ := [_, _]))
  simp only [World.size_alloc] at S6
  clear S S2 S3 S4 S5 X3 HD
  go_wp2_with fail
  refine (give_any S6 _ 1 1).mono ?_
  rintro r w6 ⟨rfl, S7⟩
  go_wp2_with fail
  go_ret
  exact ⟨rfl, _, _, _, [_, _], S7, .inr ⟨_, _, 1, rfl, m0, rfl, rfl⟩⟩
set_option maxRecDepth 100000 in
set_option maxHeartbeats 4000000 in
theorem m_maxLength {w0 w : World} {M : List (Nat × List C)} {K : List (Nat × Obj)} {cp hp sp wb g : Nat} {ds l : List O} {a : O} {cur : Array Value} (S : TabAt w0 w M ((wb, wkBox hp cp sp (.slice (some ⟨g, 0, none⟩) 1 1) (.slice none 0 0)) :: K) cp hp sp ds l) (hg : (g, .cells cur 38) ∈ K) (hc : cur.toList = [a].flatMap O.cells)
    (n : Int) (h0 : 0 ≤ n) (h1 : n ≤ 1000) (H : ∀ w' K', TabAt w0 w' M K' cp hp sp ds l → Calls Tryz.prog 153 #[ptr hp, a.val] w' fun r w2 => r = .returned (.tuple #[.int .i64 n, .int .i64 0]) ∧ TabAt w0 w2 M K' cp hp sp ds l) :
    Calls Tryz.prog 95 #[ptr wb] w (Gave w0 M K cp hp sp ds l wb 1 [iO n] 0) := by
  obtain ⟨q0, q1, q2, q3, q4, q5⟩ := at6a hc
  obtain ⟨ak, ax, an, ap, al, aS⟩ := a
  simp only at q0 q1 q2 q3 q4 q5
  obtain ⟨KB, hKB⟩ : ∃ KB, KB = (wb, wkBox hp cp sp (.slice (some ⟨g, 0, none⟩) 1 1) (.slice none 0 0)) :: K := ⟨_, rfl⟩
  have hw : (wb, wkBox hp cp sp (.slice (some ⟨g, 0, none⟩) 1 1) (.slice none 0 0)) ∈ KB := by rw [hKB]; exact m0
  have hg' : (g, Obj.cells cur 38) ∈ KB := by rw [hKB]; exact List.mem_cons_of_mem _ hg
  rw [← hKB] at S
  have HKB := hid' hKB
  have HH := hid' H
  have HS := hid' S
  have HA1 : Hid (∀ o, TabAt w0 (w.alloc o).drew M ((w.heap.size, o) :: KB) cp hp sp ds l) := hid' (fun o => (S.alloc o).drew)
  have HA2 : Hid (∀ o o', TabAt w0 ((w.alloc o).alloc o').drew M ((w.heap.size + 1, o') :: (w.heap.size, o) :: KB) cp hp sp ds l) := hid' (fun o o' => by
    have h := ((S.alloc o).alloc o').drew
    rwa [World.size_alloc] at h)
  have RW := TB.cells (w0 := w0) (cp := cp) (hp := hp) (sp := sp) hw
  have RG := TB.cells (w0 := w0) (cp := cp) (hp := hp) (sp := sp) hg'
  have lw := blk_lt (S.box _ hw)
  have lg := blk_lt (S.box _ hg')
  simp only at lw lg
  have hS1 := TB.of S
  clear H hw hg hg' S hc hKB
  go_enter Tryz.func95, Tryz.ntmps95
  go_wp2_with fail
  go_region_held3 (fun W' => TB w0 cp hp sp KB W') (first | (with_reducible assumption) | (with_reducible exact TB.of S4) | (with_reducible exact TB.drew (by with_reducible assumption)))
    ((go_at_call 153; refine (HH.out _ _ (by first | exact HS.out | exact HS.out.drew)).mono ?_; rintro r w4 ⟨rfl, S4⟩))
  rw [HKB.out] at S4
  clear HH HS HA1 HA2 RW RG lw lg hS1
  go_wp2_with fail
  refine (whole20 n (by omega) (by omega) _).mono ?_
  rintro r w3 ⟨rfl, X3⟩
  have S3 := S4.pure X3
  have S4 := S3.alloc (.cells (iO n).cells.toArray 38)
  have S5 := S4.alloc (.cells (iO n).cells.toArray 38)
  have S6 := S5.perm (List.perm_middle (l₁ := [_, _]))
  simp only [World.size_alloc] at S6
  clear S3 S4 S5 X3
  go_wp2_with fail
  refine (give_any S6 _ 1 1).mono ?_
  rintro r w6 ⟨rfl, S7⟩
  go_wp2_with fail
  go_ret
  exact ⟨rfl, _, _, _, [_, _], S7, .inr ⟨_, _, 1, rfl, m0, rfl, rfl⟩⟩
end Go.Proofs.YtpgkjgceldleaaaGreat
