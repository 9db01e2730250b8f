/- Hm1, Lst, Hpx -/
import Derived.Test.YthkhdbinkcgpgaaZHplaya
import Derived.Test.YthkhdbinkcgpgaaZShell
import Derived.Test.YthkhdbinkcgpgaaZLso
import Derived.Test.YthkhdbinkcgpgaaZHeapc
import Derived.Deep.Slices
import Derived.Test.YthkhdbinkcgpgaaZRefj
/- tympanlaw11.make1: a step that makes an object, on both heaps. -/
namespace Go.Proofs.Ythkhdbinkcgpgaa
open Go.RowKit

theorem makeH_kind (L : List C) (c : C) : ((makeH L c).2.2 == 0) = ((makeH L c).2.1.kind != 0) := by
  unfold makeH
  split
  · rfl
  · simp only [objOf, C.kind]
    split <;> (try split) <;> rfl
theorem arrayH_kind (L : List C) (n : Int) : ((arrayH L n).2.2 == 0) = ((arrayH L n).2.1.kind != 0) := by
  unfold arrayH
  split
  · rfl
  · split
    · rfl
    · exact makeH_kind _ _
theorem stringH_kind (L : List C) (s : ByteArray) : ((stringH L s).2.2 == 0) = ((stringH L s).2.1.kind != 0) := by
  unfold stringH
  split
  · rfl
  · exact makeH_kind _ _
theorem dictH_kind (L : List C) (n : Int) : ((dictH L n).2.2 == 0) = ((dictH L n).2.1.kind != 0) := by
  unfold dictH
  split
  · rfl
  · exact makeH_kind _ _
theorem partH_kind (L : List C) (o : O) (i n : Int) : ((partH L o i n).2 == 0) = ((partH L o i n).1.kind != 0) := by
  unfold partH
  by_cases hf : findE L o = 0
  · rw [if_neg (by simp [hf])]
    split
    · rfl
    · split
      · rfl
      · have hh := (findE_zero hf).1
        simp only [held, Bool.or_eq_true, beq_iff_eq] at hh
        rcases hh with (h | h) | h <;> rw [h] <;> rfl
  · rw [if_pos (by simpa using hf)]
    have : (findE L o == 0) = false := by simpa using hf
    simp only [this, O.nil]
    rfl
/-- TS with one box of an object that may be written. -/
def M1 (J0 : List (Nat × Obj)) (w0 : World) (hp gp : Nat) (M : List (Nat × List C)) (b8 : Nat) (K : List (Nat × Obj)) (L Lr : List C) (W : World) : Prop := ∃ kk kx kn kp kl ks, TS J0 w0 hp gp M ((b8, Obj.cells #[.int .i64 kk, .bool kx, .int .i64 kn, .int .i64 kp, .int .i64 kl, .string ks] 24) :: K) L Lr W
section
variable {J0 : List (Nat × Obj)} {w0 W : World} {hp gp b8 : Nat} {M : List (Nat × List C)} {K : List (Nat × Obj)} {L Lr : List C}
theorem M1.drew (h : M1 J0 w0 hp gp M b8 K L Lr W) : M1 J0 w0 hp gp M b8 K L Lr W.drew := by
  obtain ⟨kk, kx, kn, kp, kl, ks, T⟩ := h; exact ⟨kk, kx, kn, kp, kl, ks, T.drew⟩
theorem M1.cells {g : Nat} {cs : Array Value} {T : TypeId} {fz : Nat × Nat} (hm : (g, Obj.cells cs T fz) ∈ K) : ∀ W, M1 J0 w0 hp gp M b8 K L Lr W → ∀ i, W.cell? ⟨g, i, none⟩ = cs[i]? := by
  rintro W ⟨kk, kx, kn, kp, kl, ks, T⟩ i
  exact cells_of (T.box _ (List.mem_cons_of_mem _ hm)) i
theorem M1.putO (h : M1 J0 w0 hp gp M b8 K L Lr W) (kk : Int) (kx : Bool) (kn kp kl : Int) (ks : ByteArray) : M1 J0 w0 hp gp M b8 K L Lr ((((((W.setCell ⟨b8, 0, none⟩ (.int .i64 kk)).setCell ⟨b8, 1, none⟩ (.bool kx)).setCell ⟨b8, 2, none⟩ (.int .i64 kn)).setCell ⟨b8, 3, none⟩ (.int .i64 kp)).setCell ⟨b8, 4, none⟩ (.int .i64 kl)).setCell ⟨b8, 5, none⟩ (.string ks)) := by
  obtain ⟨_, _, _, _, _, _, T⟩ := h; exact ⟨kk, kx, kn, kp, kl, ks, T.putO kk kx kn kp kl ks⟩
end
abbrev stVal (sw sa sb sn sm : Int) (ss : ByteArray) (o : O) : Value := .agg #[.int .i64 sw, .int .i64 sa, .int .i64 sb, .int .i64 sn, .int .i64 sm, .string ss, .int .i64 o.kind, .bool o.exec, .int .i64 o.n, .int .i64 o.pos, .int .i64 o.len, .string o.s]
set_option maxRecDepth 100000 in
set_option maxHeartbeats 1000000 in
theorem make1_array {J0 : List (Nat × Obj)} {w0 w : World} {hp gp : Nat} {M : List (Nat × List C)} {K : List (Nat × Obj)} {L : List C} (T : TS J0 w0 hp gp M K L L w) {va : Value} {l : List O} (_hr : RowIn K 24 6 va l.length (l.flatMap O.cells)) (_hl : l.length ≤ 100000) (sw sa sb sn sm : Int) (ss : ByteArray) (so : O) (hs : sw = 0) :
    Calls Try.prog 10 #[ptr hp, ptr gp, va, stVal sw sa sb sn sm ss so] w fun r w' => ∃ o : O, r = .returned (.tuple #[o.val, .bool true]) ∧ ∃ L', TS J0 w0 hp gp M K L' L' w' := by
  obtain ⟨L', o, e, hq⟩ : ∃ L' o e, arrayH L sn = (L', o, e) := ⟨_, _, _, rfl⟩
  have hkind : (e == 0) = (o.kind != 0) := by have := arrayH_kind L sn; rwa [hq] at this
  have H1 := hid' (fun W K (T : TS J0 w0 hp gp M K L L W) => ts_array sn hq T)
  have H2 := hid' (fun W K (T : TS J0 w0 hp gp M K L' L W) => ts_rarray sn hq T)
  subst hs
  have HK := hid' hkind
  obtain ⟨kk, kx, kn, kp, kl, ks⟩ := so
  obtain ⟨ok, ox, on, op, ol, os⟩ := o
  clear hq
  show Calls Try.prog 10 #[ptr hp, ptr gp, va, .agg #[.int .i64 0, .int .i64 sa, .int .i64 sb, .int .i64 sn, .int .i64 sm, .string ss, .int .i64 kk, .bool kx, .int .i64 kn, .int .i64 kp, .int .i64 kl, .string ks]] _ _
  have T1 := (((T.alloc (Obj.cells #[.int .i64 0, .int .i64 sa, .int .i64 sb, .int .i64 sn, .int .i64 sm, .string ss, .int .i64 kk, .bool kx, .int .i64 kn, .int .i64 kp, .int .i64 kl, .string ks] 35)).alloc (Obj.cells #[.int .i64 0, .bool false, .int .i64 0, .int .i64 0, .int .i64 0, .string ⟨#[]⟩] 24)).alloc (Obj.cells #[.int .i64 0, .bool false, .int .i64 0, .int .i64 0, .int .i64 0, .string ⟨#[]⟩] 24)).alloc (Obj.cells #[.int .i64 0, .bool false, .int .i64 0, .int .i64 0, .int .i64 0, .string ⟨#[]⟩] 24)
  simp only [World.size_alloc] at T1
  go_enter Try.func10, Try.ntmps10
  go_wp2_with fail
  refine (H1.out _ _ T1).mono ?_
  rintro r w1 ⟨rfl, T2⟩
  clear T1
  have T2b := T2.perm (List.Perm.swap _ _ _)
  have T3 := T2b.putO ok ox on op ol os
  (try clear Ra); (try clear ya); (try clear Za)
  have Ra := cells_of (T2b.box _ m0)
  have ya := blk_lt (T2b.box _ m0)
  have Za := free_of (T2b.box _ m0)
  (try clear Rb); (try clear yb); (try clear Zb)
  have Rb := cells_of (T2b.box _ m1)
  have yb := blk_lt (T2b.box _ m1)
  (try clear Rs); (try clear ys); (try clear Zs)
  have Rs := cells_of (T2b.box _ m3)
  have ys := blk_lt (T2b.box _ m3)
  (try simp only at Ra ya Za Rb yb Rs ys)
  go_wp2_with fail
  refine (H2.out _ _ T3).mono ?_
  rintro r w2 ⟨rfl, T4⟩
  clear T2 T2b T3
  have T4b := T4.perm (List.Perm.swap _ _ _)
  (try clear Rb); (try clear yb); (try clear Zb)
  have Rb := cells_of (T4b.box _ m0)
  have yb := blk_lt (T4b.box _ m0)
  have Zb := free_of (T4b.box _ m0)
  (try clear Ra); (try clear ya); (try clear Za)
  have Ra := cells_of (T4b.box _ m1)
  have ya := blk_lt (T4b.box _ m1)
  (try clear Rs); (try clear ys); (try clear Zs)
  have Rs := cells_of (T4b.box _ m3)
  have ys := blk_lt (T4b.box _ m3)
  (try simp only at Rb yb Zb Ra ya Rs ys)
  have T5 := T4b.putO ok ox on op ol os
  go_upto_region 16 with (fail)
  generalize hW : World.setCell _ _ _ = w9 at *
  clear hW T4 T4b Ra ya Rb yb Zb Rs ys
  generalize w.heap.size = b7 at *
  have T8 := T5.perm (K' := (b7 + 1, Obj.cells #[.int .i64 0, .bool false, .int .i64 0, .int .i64 0, .int .i64 0, .string ⟨#[]⟩] 24) :: (b7 + 1 + 1, Obj.cells #[.int .i64 ok, .bool ox, .int .i64 on, .int .i64 op, .int .i64 ol, .string os] 24) :: (b7 + 1 + 1 + 1, Obj.cells #[.int .i64 ok, .bool ox, .int .i64 on, .int .i64 op, .int .i64 ol, .string os] 24) :: (b7, Obj.cells #[.int .i64 0, .int .i64 sa, .int .i64 sb, .int .i64 sn, .int .i64 sm, .string ss, .int .i64 kk, .bool kx, .int .i64 kn, .int .i64 kp, .int .i64 kl, .string ks] 35) :: K) (by
    classical refine List.perm_iff_count.2 fun q => ?_
    simp only [List.count_cons]
    omega)
  obtain ⟨KK, hKK⟩ : ∃ KK, KK = (b7 + 1 + 1, Obj.cells #[.int .i64 ok, .bool ox, .int .i64 on, .int .i64 op, .int .i64 ol, .string os] 24) :: (b7 + 1 + 1 + 1, Obj.cells #[.int .i64 ok, .bool ox, .int .i64 on, .int .i64 op, .int .i64 ol, .string os] 24) :: (b7, Obj.cells #[.int .i64 0, .int .i64 sa, .int .i64 sb, .int .i64 sn, .int .i64 sm, .string ss, .int .i64 kk, .bool kx, .int .i64 kn, .int .i64 kp, .int .i64 kl, .string ks] 35) :: K := ⟨_, rfl⟩
  rw [← hKK] at T8
  have hKs : K.Sublist ((b7 + 1, Obj.cells #[.int .i64 ok, .bool ox, .int .i64 on, .int .i64 op, .int .i64 ol, .string os] 24) :: KK) := by rw [hKK]; exact (((List.sublist_cons_self _ _).trans (List.sublist_cons_self _ _)).trans (List.sublist_cons_self _ _)).trans (List.sublist_cons_self _ _)
  have m10 : (b7 + 1 + 1, Obj.cells #[.int .i64 ok, .bool ox, .int .i64 on, .int .i64 op, .int .i64 ol, .string os] 24) ∈ KK := by rw [hKK]; simp
  have m11 : (b7 + 1 + 1 + 1, Obj.cells #[.int .i64 ok, .bool ox, .int .i64 on, .int .i64 op, .int .i64 ol, .string os] 24) ∈ KK := by rw [hKK]; simp
  obtain ⟨b8, hb8⟩ : ∃ b8, b7 + 1 = b8 := ⟨_, rfl⟩
  obtain ⟨b10, hb10⟩ : ∃ b10, b7 + 1 + 1 = b10 := ⟨_, rfl⟩
  obtain ⟨b11, hb11⟩ : ∃ b11, b7 + 1 + 1 + 1 = b11 := ⟨_, rfl⟩
  rw [hb10] at m10
  rw [hb11] at m11
  rw [hb8] at T8 hKs
  simp only [hb11]
  simp only [hb10]
  simp only [hb8]
  clear hb8 hb10 hb11
  clear T5 hKK
  have TM : M1 J0 w0 hp gp M b8 _ L' L' w9 := ⟨_, _, _, _, _, _, T8⟩
  have Q10 := M1.cells (J0 := J0) (w0 := w0) (hp := hp) (gp := gp) (M := M) (b8 := b8) (L := L') (Lr := L') m10
  have Q11 := M1.cells (J0 := J0) (w0 := w0) (hp := hp) (gp := gp) (M := M) (b8 := b8) (L := L') (Lr := L') m11
  (try clear Rz); (try clear yz); (try clear Zz)
  have Rz := cells_of (T8.box _ m0)
  have yz := blk_lt (T8.box _ m0)
  have Zz := free_of (T8.box _ m0)
  (try simp only at Rz yz Zz)
  have qe : eqO (⟨ok, ox, on, op, ol, os⟩ : O) ⟨ok, ox, on, op, ol, os⟩ = true := eqO_self _
  have qk : (e == 0) = (ok != 0) := HK.out
  clear hkind HK
  go_region_held3 (fun W' => M1 J0 w0 hp gp M b8 KK L' L' W') (first | (with_reducible assumption) | (with_reducible exact M1.drew (by with_reducible assumption)) | (with_reducible exact M1.putO (by first | with_reducible assumption | with_reducible exact M1.drew (by with_reducible assumption)) _ _ _ _ _ _) | (with_reducible exact M1.drew (M1.putO (by with_reducible assumption) _ _ _ _ _ _))) (fail)
  all_goals
    have A9 := (T8.putO ok ox on op ol os).drew
    have R9 := cells_of (A9.box _ m0)
    go_wp2_with fail
    refine bodyPost_ret (v := .tuple #[O.val (⟨ok, ox, on, op, ol, os⟩ : O), .bool true]) ?_ rfl ⟨⟨⟨ok, ox, on, op, ol, os⟩, rfl⟩, L', A9.keep hKs⟩
    simp [results, Try.results10, go_sem, R9]
set_option maxRecDepth 100000 in
set_option maxHeartbeats 1000000 in
theorem make1_string {J0 : List (Nat × Obj)} {w0 w : World} {hp gp : Nat} {M : List (Nat × List C)} {K : List (Nat × Obj)} {L : List C} (T : TS J0 w0 hp gp M K L L w) {va : Value} {l : List O} (_hr : RowIn K 24 6 va l.length (l.flatMap O.cells)) (_hl : l.length ≤ 100000) (sw sa sb sn sm : Int) (ss : ByteArray) (so : O) (hs : sw = 1) :
    Calls Try.prog 10 #[ptr hp, ptr gp, va, stVal sw sa sb sn sm ss so] w fun r w' => ∃ o : O, r = .returned (.tuple #[o.val, .bool true]) ∧ ∃ L', TS J0 w0 hp gp M K L' L' w' := by
  obtain ⟨L', o, e, hq⟩ : ∃ L' o e, stringH L ss = (L', o, e) := ⟨_, _, _, rfl⟩
  have hkind : (e == 0) = (o.kind != 0) := by have := stringH_kind L ss; rwa [hq] at this
  have H1 := hid' (fun W K (T : TS J0 w0 hp gp M K L L W) => ts_string ss hq T)
  have H2 := hid' (fun W K (T : TS J0 w0 hp gp M K L' L W) => ts_rstring ss hq T)
  subst hs
  have HK := hid' hkind
  obtain ⟨kk, kx, kn, kp, kl, ks⟩ := so
  obtain ⟨ok, ox, on, op, ol, os⟩ := o
  clear hq
  show Calls Try.prog 10 #[ptr hp, ptr gp, va, .agg #[.int .i64 1, .int .i64 sa, .int .i64 sb, .int .i64 sn, .int .i64 sm, .string ss, .int .i64 kk, .bool kx, .int .i64 kn, .int .i64 kp, .int .i64 kl, .string ks]] _ _
  have T1 := (((T.alloc (Obj.cells #[.int .i64 1, .int .i64 sa, .int .i64 sb, .int .i64 sn, .int .i64 sm, .string ss, .int .i64 kk, .bool kx, .int .i64 kn, .int .i64 kp, .int .i64 kl, .string ks] 35)).alloc (Obj.cells #[.int .i64 0, .bool false, .int .i64 0, .int .i64 0, .int .i64 0, .string ⟨#[]⟩] 24)).alloc (Obj.cells #[.int .i64 0, .bool false, .int .i64 0, .int .i64 0, .int .i64 0, .string ⟨#[]⟩] 24)).alloc (Obj.cells #[.int .i64 0, .bool false, .int .i64 0, .int .i64 0, .int .i64 0, .string ⟨#[]⟩] 24)
  simp only [World.size_alloc] at T1
  go_enter Try.func10, Try.ntmps10
  go_wp2_with fail
  refine (H1.out _ _ T1).mono ?_
  rintro r w1 ⟨rfl, T2⟩
  clear T1
  have T2b := T2.perm (List.Perm.swap _ _ _)
  have T3 := T2b.putO ok ox on op ol os
  (try clear Ra); (try clear ya); (try clear Za)
  have Ra := cells_of (T2b.box _ m0)
  have ya := blk_lt (T2b.box _ m0)
  have Za := free_of (T2b.box _ m0)
  (try clear Rb); (try clear yb); (try clear Zb)
  have Rb := cells_of (T2b.box _ m1)
  have yb := blk_lt (T2b.box _ m1)
  (try clear Rs); (try clear ys); (try clear Zs)
  have Rs := cells_of (T2b.box _ m3)
  have ys := blk_lt (T2b.box _ m3)
  (try simp only at Ra ya Za Rb yb Rs ys)
  go_wp2_with fail
  refine (H2.out _ _ T3).mono ?_
  rintro r w2 ⟨rfl, T4⟩
  clear T2 T2b T3
  have T4b := T4.perm (List.Perm.swap _ _ _)
  (try clear Rb); (try clear yb); (try clear Zb)
  have Rb := cells_of (T4b.box _ m0)
  have yb := blk_lt (T4b.box _ m0)
  have Zb := free_of (T4b.box _ m0)
  (try clear Ra); (try clear ya); (try clear Za)
  have Ra := cells_of (T4b.box _ m1)
  have ya := blk_lt (T4b.box _ m1)
  (try clear Rs); (try clear ys); (try clear Zs)
  have Rs := cells_of (T4b.box _ m3)
  have ys := blk_lt (T4b.box _ m3)
  (try simp only at Rb yb Zb Ra ya Rs ys)
  have T5 := T4b.putO ok ox on op ol os
  go_upto_region 16 with (fail)
  generalize hW : World.setCell _ _ _ = w9 at *
  clear hW T4 T4b Ra ya Rb yb Zb Rs ys
  generalize w.heap.size = b7 at *
  have T8 := T5.perm (K' := (b7 + 1, Obj.cells #[.int .i64 0, .bool false, .int .i64 0, .int .i64 0, .int .i64 0, .string ⟨#[]⟩] 24) :: (b7 + 1 + 1, Obj.cells #[.int .i64 ok, .bool ox, .int .i64 on, .int .i64 op, .int .i64 ol, .string os] 24) :: (b7 + 1 + 1 + 1, Obj.cells #[.int .i64 ok, .bool ox, .int .i64 on, .int .i64 op, .int .i64 ol, .string os] 24) :: (b7, Obj.cells #[.int .i64 1, .int .i64 sa, .int .i64 sb, .int .i64 sn, .int .i64 sm, .string ss, .int .i64 kk, .bool kx, .int .i64 kn, .int .i64 kp, .int .i64 kl, .string ks] 35) :: K) (by
    classical refine List.perm_iff_count.2 fun q => ?_
    simp only [List.count_cons]
    omega)
  obtain ⟨KK, hKK⟩ : ∃ KK, KK = (b7 + 1 + 1, Obj.cells #[.int .i64 ok, .bool ox, .int .i64 on, .int .i64 op, .int .i64 ol, .string os] 24) :: (b7 + 1 + 1 + 1, Obj.cells #[.int .i64 ok, .bool ox, .int .i64 on, .int .i64 op, .int .i64 ol, .string os] 24) :: (b7, Obj.cells #[.int .i64 1, .int .i64 sa, .int .i64 sb, .int .i64 sn, .int .i64 sm, .string ss, .int .i64 kk, .bool kx, .int .i64 kn, .int .i64 kp, .int .i64 kl, .string ks] 35) :: K := ⟨_, rfl⟩
  rw [← hKK] at T8
  have hKs : K.Sublist ((b7 + 1, Obj.cells #[.int .i64 ok, .bool ox, .int .i64 on, .int .i64 op, .int .i64 ol, .string os] 24) :: KK) := by rw [hKK]; exact (((List.sublist_cons_self _ _).trans (List.sublist_cons_self _ _)).trans (List.sublist_cons_self _ _)).trans (List.sublist_cons_self _ _)
  have m10 : (b7 + 1 + 1, Obj.cells #[.int .i64 ok, .bool ox, .int .i64 on, .int .i64 op, .int .i64 ol, .string os] 24) ∈ KK := by rw [hKK]; simp
  have m11 : (b7 + 1 + 1 + 1, Obj.cells #[.int .i64 ok, .bool ox, .int .i64 on, .int .i64 op, .int .i64 ol, .string os] 24) ∈ KK := by rw [hKK]; simp
  obtain ⟨b8, hb8⟩ : ∃ b8, b7 + 1 = b8 := ⟨_, rfl⟩
  obtain ⟨b10, hb10⟩ : ∃ b10, b7 + 1 + 1 = b10 := ⟨_, rfl⟩
  obtain ⟨b11, hb11⟩ : ∃ b11, b7 + 1 + 1 + 1 = b11 := ⟨_, rfl⟩
  rw [hb10] at m10
  rw [hb11] at m11
  rw [hb8] at T8 hKs
  simp only [hb11]
  simp only [hb10]
  simp only [hb8]
  clear hb8 hb10 hb11
  clear T5 hKK
  have TM : M1 J0 w0 hp gp M b8 _ L' L' w9 := ⟨_, _, _, _, _, _, T8⟩
  have Q10 := M1.cells (J0 := J0) (w0 := w0) (hp := hp) (gp := gp) (M := M) (b8 := b8) (L := L') (Lr := L') m10
  have Q11 := M1.cells (J0 := J0) (w0 := w0) (hp := hp) (gp := gp) (M := M) (b8 := b8) (L := L') (Lr := L') m11
  (try clear Rz); (try clear yz); (try clear Zz)
  have Rz := cells_of (T8.box _ m0)
  have yz := blk_lt (T8.box _ m0)
  have Zz := free_of (T8.box _ m0)
  (try simp only at Rz yz Zz)
  have qe : eqO (⟨ok, ox, on, op, ol, os⟩ : O) ⟨ok, ox, on, op, ol, os⟩ = true := eqO_self _
  have qk : (e == 0) = (ok != 0) := HK.out
  clear hkind HK
  go_region_held3 (fun W' => M1 J0 w0 hp gp M b8 KK L' L' W') (first | (with_reducible assumption) | (with_reducible exact M1.drew (by with_reducible assumption)) | (with_reducible exact M1.putO (by first | with_reducible assumption | with_reducible exact M1.drew (by with_reducible assumption)) _ _ _ _ _ _) | (with_reducible exact M1.drew (M1.putO (by with_reducible assumption) _ _ _ _ _ _))) (fail)
  all_goals
    have A9 := (T8.putO ok ox on op ol os).drew
    have R9 := cells_of (A9.box _ m0)
    go_wp2_with fail
    refine bodyPost_ret (v := .tuple #[O.val (⟨ok, ox, on, op, ol, os⟩ : O), .bool true]) ?_ rfl ⟨⟨⟨ok, ox, on, op, ol, os⟩, rfl⟩, L', A9.keep hKs⟩
    simp [results, Try.results10, go_sem, R9]
set_option maxRecDepth 100000 in
set_option maxHeartbeats 1000000 in
theorem make1_dict {J0 : List (Nat × Obj)} {w0 w : World} {hp gp : Nat} {M : List (Nat × List C)} {K : List (Nat × Obj)} {L : List C} (T : TS J0 w0 hp gp M K L L w) {va : Value} {l : List O} (_hr : RowIn K 24 6 va l.length (l.flatMap O.cells)) (_hl : l.length ≤ 100000) (sw sa sb sn sm : Int) (ss : ByteArray) (so : O) (hs : sw = 2) :
    Calls Try.prog 10 #[ptr hp, ptr gp, va, stVal sw sa sb sn sm ss so] w fun r w' => ∃ o : O, r = .returned (.tuple #[o.val, .bool true]) ∧ ∃ L', TS J0 w0 hp gp M K L' L' w' := by
  obtain ⟨L', o, e, hq⟩ : ∃ L' o e, dictH L sn = (L', o, e) := ⟨_, _, _, rfl⟩
  have hkind : (e == 0) = (o.kind != 0) := by have := dictH_kind L sn; rwa [hq] at this
  have H1 := hid' (fun W K (T : TS J0 w0 hp gp M K L L W) => ts_dict sn hq T)
  have H2 := hid' (fun W K (T : TS J0 w0 hp gp M K L' L W) => ts_rdict sn hq T)
  subst hs
  have HK := hid' hkind
  obtain ⟨kk, kx, kn, kp, kl, ks⟩ := so
  obtain ⟨ok, ox, on, op, ol, os⟩ := o
  clear hq
  show Calls Try.prog 10 #[ptr hp, ptr gp, va, .agg #[.int .i64 2, .int .i64 sa, .int .i64 sb, .int .i64 sn, .int .i64 sm, .string ss, .int .i64 kk, .bool kx, .int .i64 kn, .int .i64 kp, .int .i64 kl, .string ks]] _ _
  have T1 := (((T.alloc (Obj.cells #[.int .i64 2, .int .i64 sa, .int .i64 sb, .int .i64 sn, .int .i64 sm, .string ss, .int .i64 kk, .bool kx, .int .i64 kn, .int .i64 kp, .int .i64 kl, .string ks] 35)).alloc (Obj.cells #[.int .i64 0, .bool false, .int .i64 0, .int .i64 0, .int .i64 0, .string ⟨#[]⟩] 24)).alloc (Obj.cells #[.int .i64 0, .bool false, .int .i64 0, .int .i64 0, .int .i64 0, .string ⟨#[]⟩] 24)).alloc (Obj.cells #[.int .i64 0, .bool false, .int .i64 0, .int .i64 0, .int .i64 0, .string ⟨#[]⟩] 24)
  simp only [World.size_alloc] at T1
  go_enter Try.func10, Try.ntmps10
  go_wp2_with fail
  refine (H1.out _ _ T1).mono ?_
  rintro r w1 ⟨rfl, T2⟩
  clear T1
  have T2b := T2.perm (List.Perm.swap _ _ _)
  have T3 := T2b.putO ok ox on op ol os
  (try clear Ra); (try clear ya); (try clear Za)
  have Ra := cells_of (T2b.box _ m0)
  have ya := blk_lt (T2b.box _ m0)
  have Za := free_of (T2b.box _ m0)
  (try clear Rb); (try clear yb); (try clear Zb)
  have Rb := cells_of (T2b.box _ m1)
  have yb := blk_lt (T2b.box _ m1)
  (try clear Rs); (try clear ys); (try clear Zs)
  have Rs := cells_of (T2b.box _ m3)
  have ys := blk_lt (T2b.box _ m3)
  (try simp only at Ra ya Za Rb yb Rs ys)
  go_wp2_with fail
  refine (H2.out _ _ T3).mono ?_
  rintro r w2 ⟨rfl, T4⟩
  clear T2 T2b T3
  have T4b := T4.perm (List.Perm.swap _ _ _)
  (try clear Rb); (try clear yb); (try clear Zb)
  have Rb := cells_of (T4b.box _ m0)
  have yb := blk_lt (T4b.box _ m0)
  have Zb := free_of (T4b.box _ m0)
  (try clear Ra); (try clear ya); (try clear Za)
  have Ra := cells_of (T4b.box _ m1)
  have ya := blk_lt (T4b.box _ m1)
  (try clear Rs); (try clear ys); (try clear Zs)
  have Rs := cells_of (T4b.box _ m3)
  have ys := blk_lt (T4b.box _ m3)
  (try simp only at Rb yb Zb Ra ya Rs ys)
  have T5 := T4b.putO ok ox on op ol os
  go_upto_region 16 with (fail)
  generalize hW : World.setCell _ _ _ = w9 at *
  clear hW T4 T4b Ra ya Rb yb Zb Rs ys
  generalize w.heap.size = b7 at *
  have T8 := T5.perm (K' := (b7 + 1, Obj.cells #[.int .i64 0, .bool false, .int .i64 0, .int .i64 0, .int .i64 0, .string ⟨#[]⟩] 24) :: (b7 + 1 + 1, Obj.cells #[.int .i64 ok, .bool ox, .int .i64 on, .int .i64 op, .int .i64 ol, .string os] 24) :: (b7 + 1 + 1 + 1, Obj.cells #[.int .i64 ok, .bool ox, .int .i64 on, .int .i64 op, .int .i64 ol, .string os] 24) :: (b7, Obj.cells #[.int .i64 2, .int .i64 sa, .int .i64 sb, .int .i64 sn, .int .i64 sm, .string ss, .int .i64 kk, .bool kx, .int .i64 kn, .int .i64 kp, .int .i64 kl, .string ks] 35) :: K) (by
    classical refine List.perm_iff_count.2 fun q => ?_
    simp only [List.count_cons]
    omega)
  obtain ⟨KK, hKK⟩ : ∃ KK, KK = (b7 + 1 + 1, Obj.cells #[.int .i64 ok, .bool ox, .int .i64 on, .int .i64 op, .int .i64 ol, .string os] 24) :: (b7 + 1 + 1 + 1, Obj.cells #[.int .i64 ok, .bool ox, .int .i64 on, .int .i64 op, .int .i64 ol, .string os] 24) :: (b7, Obj.cells #[.int .i64 2, .int .i64 sa, .int .i64 sb, .int .i64 sn, .int .i64 sm, .string ss, .int .i64 kk, .bool kx, .int .i64 kn, .int .i64 kp, .int .i64 kl, .string ks] 35) :: K := ⟨_, rfl⟩
  rw [← hKK] at T8
  have hKs : K.Sublist ((b7 + 1, Obj.cells #[.int .i64 ok, .bool ox, .int .i64 on, .int .i64 op, .int .i64 ol, .string os] 24) :: KK) := by rw [hKK]; exact (((List.sublist_cons_self _ _).trans (List.sublist_cons_self _ _)).trans (List.sublist_cons_self _ _)).trans (List.sublist_cons_self _ _)
  have m10 : (b7 + 1 + 1, Obj.cells #[.int .i64 ok, .bool ox, .int .i64 on, .int .i64 op, .int .i64 ol, .string os] 24) ∈ KK := by rw [hKK]; simp
  have m11 : (b7 + 1 + 1 + 1, Obj.cells #[.int .i64 ok, .bool ox, .int .i64 on, .int .i64 op, .int .i64 ol, .string os] 24) ∈ KK := by rw [hKK]; simp
  obtain ⟨b8, hb8⟩ : ∃ b8, b7 + 1 = b8 := ⟨_, rfl⟩
  obtain ⟨b10, hb10⟩ : ∃ b10, b7 + 1 + 1 = b10 := ⟨_, rfl⟩
  obtain ⟨b11, hb11⟩ : ∃ b11, b7 + 1 + 1 + 1 = b11 := ⟨_, rfl⟩
  rw [hb10] at m10
  rw [hb11] at m11
  rw [hb8] at T8 hKs
  simp only [hb11]
  simp only [hb10]
  simp only [hb8]
  clear hb8 hb10 hb11
  clear T5 hKK
  have TM : M1 J0 w0 hp gp M b8 _ L' L' w9 := ⟨_, _, _, _, _, _, T8⟩
  have Q10 := M1.cells (J0 := J0) (w0 := w0) (hp := hp) (gp := gp) (M := M) (b8 := b8) (L := L') (Lr := L') m10
  have Q11 := M1.cells (J0 := J0) (w0 := w0) (hp := hp) (gp := gp) (M := M) (b8 := b8) (L := L') (Lr := L') m11
  (try clear Rz); (try clear yz); (try clear Zz)
  have Rz := cells_of (T8.box _ m0)
  have yz := blk_lt (T8.box _ m0)
  have Zz := free_of (T8.box _ m0)
  (try simp only at Rz yz Zz)
  have qe : eqO (⟨ok, ox, on, op, ol, os⟩ : O) ⟨ok, ox, on, op, ol, os⟩ = true := eqO_self _
  have qk : (e == 0) = (ok != 0) := HK.out
  clear hkind HK
  go_region_held3 (fun W' => M1 J0 w0 hp gp M b8 KK L' L' W') (first | (with_reducible assumption) | (with_reducible exact M1.drew (by with_reducible assumption)) | (with_reducible exact M1.putO (by first | with_reducible assumption | with_reducible exact M1.drew (by with_reducible assumption)) _ _ _ _ _ _) | (with_reducible exact M1.drew (M1.putO (by with_reducible assumption) _ _ _ _ _ _))) (fail)
  all_goals
    have A9 := (T8.putO ok ox on op ol os).drew
    have R9 := cells_of (A9.box _ m0)
    go_wp2_with fail
    refine bodyPost_ret (v := .tuple #[O.val (⟨ok, ox, on, op, ol, os⟩ : O), .bool true]) ?_ rfl ⟨⟨⟨ok, ox, on, op, ol, os⟩, rfl⟩, L', A9.keep hKs⟩
    simp [results, Try.results10, go_sem, R9]
set_option maxRecDepth 100000 in
set_option maxHeartbeats 1000000 in
theorem make1_part {J0 : List (Nat × Obj)} {w0 w : World} {hp gp : Nat} {M : List (Nat × List C)} {K : List (Nat × Obj)} {L : List C} (T : TS J0 w0 hp gp M K L L w) {va : Value} {l : List O} (hr : RowIn K 24 6 va l.length (l.flatMap O.cells)) (hl : l.length ≤ 100000) (sw sa sb sn sm : Int) (ss : ByteArray) (so : O) (hs : (sw == 0) = false ∧ (sw == 1) = false ∧ (sw == 2) = false) :
    Calls Try.prog 10 #[ptr hp, ptr gp, va, stVal sw sa sb sn sm ss so] w fun r w' => ∃ o : O, r = .returned (.tuple #[o.val, .bool true]) ∧ ∃ L', TS J0 w0 hp gp M K L' L' w' := by
  obtain ⟨⟨pk, px, pn, pp, pl, ps⟩, hpk⟩ : ∃ p, pickL l sa so = p := ⟨_, rfl⟩
  obtain ⟨o, e, hq⟩ : ∃ o e, partH L ⟨pk, px, pn, pp, pl, ps⟩ sn sm = (o, e) := ⟨_, _, rfl⟩
  obtain ⟨L', hL⟩ : ∃ L', L' = L := ⟨_, rfl⟩
  have hkind : (e == 0) = (o.kind != 0) := by have := partH_kind L ⟨pk, px, pn, pp, pl, ps⟩ sn sm; rwa [hq] at this
  have HP := hid' (fun W K (T : TS J0 w0 hp gp M K L L W) (hr' : RowIn K 24 6 va l.length (l.flatMap O.cells)) => T.ask fun E H A => pick_any A (hr'.mono (fun q hq => List.mem_append_right _ hq)) hl sa so hpk)
  have H1 := hid' (fun W K (T : TS J0 w0 hp gp M K L L W) => ts_part ⟨pk, px, pn, pp, pl, ps⟩ sn sm hq T)
  have H2 := hid' (fun W K (T : TS J0 w0 hp gp M K L L W) => ts_rpart ⟨pk, px, pn, pp, pl, ps⟩ sn sm hq T)
  obtain ⟨hs0, hs1, hs2⟩ := hs
  clear hpk
  have HK := hid' hkind
  obtain ⟨kk, kx, kn, kp, kl, ks⟩ := so
  obtain ⟨ok, ox, on, op, ol, os⟩ := o
  clear hq
  show Calls Try.prog 10 #[ptr hp, ptr gp, va, .agg #[.int .i64 sw, .int .i64 sa, .int .i64 sb, .int .i64 sn, .int .i64 sm, .string ss, .int .i64 kk, .bool kx, .int .i64 kn, .int .i64 kp, .int .i64 kl, .string ks]] _ _
  have T1 := (((T.alloc (Obj.cells #[.int .i64 sw, .int .i64 sa, .int .i64 sb, .int .i64 sn, .int .i64 sm, .string ss, .int .i64 kk, .bool kx, .int .i64 kn, .int .i64 kp, .int .i64 kl, .string ks] 35)).alloc (Obj.cells #[.int .i64 0, .bool false, .int .i64 0, .int .i64 0, .int .i64 0, .string ⟨#[]⟩] 24)).alloc (Obj.cells #[.int .i64 0, .bool false, .int .i64 0, .int .i64 0, .int .i64 0, .string ⟨#[]⟩] 24)).alloc (Obj.cells #[.int .i64 0, .bool false, .int .i64 0, .int .i64 0, .int .i64 0, .string ⟨#[]⟩] 24)
  simp only [World.size_alloc] at T1
  have hr1 := hid' (hr.mono (fun q hq => List.mem_cons_of_mem (w.heap.size + 1 + 1 + 1, Obj.cells #[.int .i64 0, .bool false, .int .i64 0, .int .i64 0, .int .i64 0, .string ⟨#[]⟩] 24) (List.mem_cons_of_mem (w.heap.size + 1 + 1, Obj.cells #[.int .i64 0, .bool false, .int .i64 0, .int .i64 0, .int .i64 0, .string ⟨#[]⟩] 24) (List.mem_cons_of_mem (w.heap.size + 1, Obj.cells #[.int .i64 0, .bool false, .int .i64 0, .int .i64 0, .int .i64 0, .string ⟨#[]⟩] 24) (List.mem_cons_of_mem (w.heap.size, Obj.cells #[.int .i64 sw, .int .i64 sa, .int .i64 sb, .int .i64 sn, .int .i64 sm, .string ss, .int .i64 kk, .bool kx, .int .i64 kn, .int .i64 kp, .int .i64 kl, .string ks] 35) hq)))))
  clear hr
  go_enter Try.func10, Try.ntmps10
  go_wp2_with fail
  refine (HP.out _ _ T1 hr1.out).mono ?_
  rintro r w1 ⟨rfl, T2⟩
  clear T1
  have T2a := T2.alloc (Obj.cells #[.int .i64 pk, .bool px, .int .i64 pn, .int .i64 pp, .int .i64 pl, .string ps] 24)
  (try clear Rs); (try clear ys); (try clear Zs)
  have Rs := cells_of (T2.box _ m3)
  have ys := blk_lt (T2.box _ m3)
  (try simp only at Rs ys)
  go_wp2_with fail
  refine (H1.out _ _ T2a).mono ?_
  rintro r w2 ⟨rfl, T3⟩
  generalize w1.heap.size = b14 at *
  have T3b := T3.perm (K' := (w.heap.size + 1 + 1, Obj.cells #[.int .i64 0, .bool false, .int .i64 0, .int .i64 0, .int .i64 0, .string ⟨#[]⟩] 24) :: (w.heap.size + 1 + 1 + 1, Obj.cells #[.int .i64 0, .bool false, .int .i64 0, .int .i64 0, .int .i64 0, .string ⟨#[]⟩] 24) :: (b14, Obj.cells #[.int .i64 pk, .bool px, .int .i64 pn, .int .i64 pp, .int .i64 pl, .string ps] 24) :: (w.heap.size + 1, Obj.cells #[.int .i64 0, .bool false, .int .i64 0, .int .i64 0, .int .i64 0, .string ⟨#[]⟩] 24) :: (w.heap.size, Obj.cells #[.int .i64 sw, .int .i64 sa, .int .i64 sb, .int .i64 sn, .int .i64 sm, .string ss, .int .i64 kk, .bool kx, .int .i64 kn, .int .i64 kp, .int .i64 kl, .string ks] 35) :: K) (by
    classical refine List.perm_iff_count.2 fun q => ?_
    simp only [List.count_cons]
    omega)
  have T4 := T3b.putO ok ox on op ol os
  clear T2 T2a T3
  (try clear Ra); (try clear ya); (try clear Za)
  have Ra := cells_of (T3b.box _ m0)
  have ya := blk_lt (T3b.box _ m0)
  have Za := free_of (T3b.box _ m0)
  (try clear Rb); (try clear yb); (try clear Zb)
  have Rb := cells_of (T3b.box _ m1)
  have yb := blk_lt (T3b.box _ m1)
  (try clear Rp); (try clear yp); (try clear Zp)
  have Rp := cells_of (T3b.box _ m2)
  have yp := blk_lt (T3b.box _ m2)
  (try clear Rs); (try clear ys); (try clear Zs)
  have Rs := cells_of (T3b.box _ m4)
  have ys := blk_lt (T3b.box _ m4)
  (try simp only at Ra ya Za Rb yb Rp yp Rs ys)
  go_upto_region 6 with (fail)
  generalize hW : World.setCell _ _ _ = w2b at *
  clear hW T3b
  (try clear Rb); (try clear yb); (try clear Zb)
  have Rb := cells_of (T4.box _ m1)
  have yb := blk_lt (T4.box _ m1)
  (try clear Rp); (try clear yp); (try clear Zp)
  have Rp := cells_of (T4.box _ m2)
  have yp := blk_lt (T4.box _ m2)
  (try clear Rs); (try clear ys); (try clear Zs)
  have Rs := cells_of (T4.box _ m4)
  have ys := blk_lt (T4.box _ m4)
  (try simp only at Rb yb Rp yp Rs ys)
  clear Ra ya Za
  go_wp2_with fail
  refine (H2.out _ _ T4).mono ?_
  rintro r w3 ⟨rfl, T5⟩
  clear T4
  have T4b := T5.perm (List.Perm.swap _ _ _)
  (try clear Rb); (try clear yb); (try clear Zb)
  have Rb := cells_of (T4b.box _ m0)
  have yb := blk_lt (T4b.box _ m0)
  have Zb := free_of (T4b.box _ m0)
  (try clear Ra); (try clear ya); (try clear Za)
  have Ra := cells_of (T4b.box _ m1)
  have ya := blk_lt (T4b.box _ m1)
  (try clear Rp); (try clear yp); (try clear Zp)
  have Rp := cells_of (T4b.box _ m2)
  have yp := blk_lt (T4b.box _ m2)
  (try clear Rs); (try clear ys); (try clear Zs)
  have Rs := cells_of (T4b.box _ m4)
  have ys := blk_lt (T4b.box _ m4)
  (try simp only at Rb yb Zb Ra ya Rp yp Rs ys)
  have T5 := T4b.putO ok ox on op ol os
  go_upto_region 16 with (fail)
  generalize hW : World.setCell _ _ _ = w9 at *
  clear hW T4b Ra ya Rb yb Zb Rs ys Rp yp
  generalize w.heap.size = b7 at *
  have T8 := T5.perm (K' := (b7 + 1, Obj.cells #[.int .i64 0, .bool false, .int .i64 0, .int .i64 0, .int .i64 0, .string ⟨#[]⟩] 24) :: (b7 + 1 + 1, Obj.cells #[.int .i64 ok, .bool ox, .int .i64 on, .int .i64 op, .int .i64 ol, .string os] 24) :: (b7 + 1 + 1 + 1, Obj.cells #[.int .i64 ok, .bool ox, .int .i64 on, .int .i64 op, .int .i64 ol, .string os] 24) :: (b7, Obj.cells #[.int .i64 sw, .int .i64 sa, .int .i64 sb, .int .i64 sn, .int .i64 sm, .string ss, .int .i64 kk, .bool kx, .int .i64 kn, .int .i64 kp, .int .i64 kl, .string ks] 35) :: (b14, Obj.cells #[.int .i64 pk, .bool px, .int .i64 pn, .int .i64 pp, .int .i64 pl, .string ps] 24) :: K) (by
    classical refine List.perm_iff_count.2 fun q => ?_
    simp only [List.count_cons]
    omega)
  obtain ⟨KK, hKK⟩ : ∃ KK, KK = (b7 + 1 + 1, Obj.cells #[.int .i64 ok, .bool ox, .int .i64 on, .int .i64 op, .int .i64 ol, .string os] 24) :: (b7 + 1 + 1 + 1, Obj.cells #[.int .i64 ok, .bool ox, .int .i64 on, .int .i64 op, .int .i64 ol, .string os] 24) :: (b7, Obj.cells #[.int .i64 sw, .int .i64 sa, .int .i64 sb, .int .i64 sn, .int .i64 sm, .string ss, .int .i64 kk, .bool kx, .int .i64 kn, .int .i64 kp, .int .i64 kl, .string ks] 35) :: (b14, Obj.cells #[.int .i64 pk, .bool px, .int .i64 pn, .int .i64 pp, .int .i64 pl, .string ps] 24) :: K := ⟨_, rfl⟩
  rw [← hKK] at T8
  have hKs : K.Sublist ((b7 + 1, Obj.cells #[.int .i64 ok, .bool ox, .int .i64 on, .int .i64 op, .int .i64 ol, .string os] 24) :: KK) := by rw [hKK]; exact ((((List.sublist_cons_self _ _).trans (List.sublist_cons_self _ _)).trans (List.sublist_cons_self _ _)).trans (List.sublist_cons_self _ _)).trans (List.sublist_cons_self _ _)
  have m10 : (b7 + 1 + 1, Obj.cells #[.int .i64 ok, .bool ox, .int .i64 on, .int .i64 op, .int .i64 ol, .string os] 24) ∈ KK := by rw [hKK]; simp
  have m11 : (b7 + 1 + 1 + 1, Obj.cells #[.int .i64 ok, .bool ox, .int .i64 on, .int .i64 op, .int .i64 ol, .string os] 24) ∈ KK := by rw [hKK]; simp
  obtain ⟨b8, hb8⟩ : ∃ b8, b7 + 1 = b8 := ⟨_, rfl⟩
  obtain ⟨b10, hb10⟩ : ∃ b10, b7 + 1 + 1 = b10 := ⟨_, rfl⟩
  obtain ⟨b11, hb11⟩ : ∃ b11, b7 + 1 + 1 + 1 = b11 := ⟨_, rfl⟩
  rw [hb10] at m10
  rw [hb11] at m11
  rw [hb8] at T8 hKs
  simp only [hb11]
  simp only [hb10]
  simp only [hb8]
  clear hb8 hb10 hb11
  clear T5 hKK
  have TM : M1 J0 w0 hp gp M b8 _ L L w9 := ⟨_, _, _, _, _, _, T8⟩
  have Q10 := M1.cells (J0 := J0) (w0 := w0) (hp := hp) (gp := gp) (M := M) (b8 := b8) (L := L) (Lr := L) m10
  have Q11 := M1.cells (J0 := J0) (w0 := w0) (hp := hp) (gp := gp) (M := M) (b8 := b8) (L := L) (Lr := L) m11
  (try clear Rz); (try clear yz); (try clear Zz)
  have Rz := cells_of (T8.box _ m0)
  have yz := blk_lt (T8.box _ m0)
  have Zz := free_of (T8.box _ m0)
  (try simp only at Rz yz Zz)
  have qe : eqO (⟨ok, ox, on, op, ol, os⟩ : O) ⟨ok, ox, on, op, ol, os⟩ = true := eqO_self _
  have qk : (e == 0) = (ok != 0) := HK.out
  clear hkind HK
  go_region_held3 (fun W' => M1 J0 w0 hp gp M b8 KK L L W') (first | (with_reducible assumption) | (with_reducible exact M1.drew (by with_reducible assumption)) | (with_reducible exact M1.putO (by first | with_reducible assumption | with_reducible exact M1.drew (by with_reducible assumption)) _ _ _ _ _ _) | (with_reducible exact M1.drew (M1.putO (by with_reducible assumption) _ _ _ _ _ _))) (fail)
  all_goals
    have A9 := (T8.putO ok ox on op ol os).drew
    have R9 := cells_of (A9.box _ m0)
    go_wp2_with fail
    refine bodyPost_ret (v := .tuple #[O.val (⟨ok, ox, on, op, ol, os⟩ : O), .bool true]) ?_ rfl ⟨⟨⟨ok, ox, on, op, ol, os⟩, rfl⟩, L, A9.keep hKs⟩
    simp [results, Try.results10, go_sem, R9]
theorem make1_any {J0 : List (Nat × Obj)} {w0 w : World} {hp gp : Nat} {M : List (Nat × List C)} {K : List (Nat × Obj)} {L : List C} (T : TS J0 w0 hp gp M K L L w) {va : Value} {l : List O} (hr : RowIn K 24 6 va l.length (l.flatMap O.cells)) (hl : l.length ≤ 100000) (sw sa sb sn sm : Int) (ss : ByteArray) (so : O) :
    Calls Try.prog 10 #[ptr hp, ptr gp, va, stVal sw sa sb sn sm ss so] w fun r w' => ∃ o : O, r = .returned (.tuple #[o.val, .bool true]) ∧ ∃ L', TS J0 w0 hp gp M K L' L' w' := by
  by_cases h0 : sw = 0
  · exact make1_array T hr hl _ _ _ _ _ _ _ h0
  by_cases h1 : sw = 1
  · exact make1_string T hr hl _ _ _ _ _ _ _ h1
  by_cases h2 : sw = 2
  · exact make1_dict T hr hl _ _ _ _ _ _ _ h2
  exact make1_part T hr hl _ _ _ _ _ _ _ ⟨by simpa using h0, by simpa using h1, by simpa using h2⟩
end Go.Proofs.Ythkhdbinkcgpgaa
/- Arguments of a law that are slices of tympanlaw11.Step. -/
namespace Go.Proofs.Ythkhdbinkcgpgaa
open Go.ChangeShapes Go.WideShapes Go.ChangeAt Go.RowKit

structure St where
  what : Int
  a : Int
  b : Int
  n : Int
  m : Int
  s : ByteArray
  o : O
def St.cells (t : St) : List Value := [.int .i64 t.what, .int .i64 t.a, .int .i64 t.b, .int .i64 t.n, .int .i64 t.m, .string t.s, .int .i64 t.o.kind, .bool t.o.exec, .int .i64 t.o.n, .int .i64 t.o.pos, .int .i64 t.o.len, .string t.o.s]
/-- A slice of these that came in. -/
def StsAt (w : World) (v : Value) (l : List St) : Prop :=
  ∃ a cap, v = .slice a l.length cap ∧ l.length ≤ cap ∧ (0 < l.length → ∃ b off, a = some ⟨b, off, none⟩ ∧ b < w.heap.size ∧ ∀ (i : Nat) (t : St), l[i]? = some t → ∀ j, j < 12 → w.cell? ⟨b, off + i * 12 + j, none⟩ = t.cells[j]?)
theorem StsAt.pure {w w' : World} {v : Value} {l : List St} (h : StsAt w v l) (X : Chg NoB w w') : StsAt w' v l := by
  obtain ⟨a, cap, h1, h2, h3⟩ := h
  refine ⟨a, cap, h1, h2, fun hl => ?_⟩
  obtain ⟨b, off, h4, h5, h6⟩ := h3 hl
  refine ⟨b, off, h4, Nat.lt_of_lt_of_le h5 X.size, fun i t ht j hj => ?_⟩
  have h7 := h6 i t ht j hj
  have hlt : j < t.cells.length := hj
  rw [List.getElem?_eq_getElem hlt] at h7 ⊢
  rw [X.below.cell (p := ⟨b, off + i * 12 + j, none⟩) h5]
  exact h7
def StOk (t : St) : Prop := (Lit.int .i64 t.what).wf = true ∧ (Lit.int .i64 t.a).wf = true ∧ (Lit.int .i64 t.b).wf = true ∧ (Lit.int .i64 t.n).wf = true ∧ (Lit.int .i64 t.m).wf = true ∧ t.s.size ≤ maxLen ∧ t.o.s.size ≤ maxLen
def StsIn (w : World) (v : Value) (l : List St) : Prop := StsAt w v l ∧ l.length ≤ maxLen ∧ ∀ t ∈ l, StOk t
set_option maxRecDepth 100000 in
theorem sts_in {H : Type} {enc : TypeId × Value → H} {W : World} {v : Value} {d : DataW H} {p : List MemPlace} {base : Nat}
    (hv : Value.okWide Try.prog W .any base 22 v) (h : DataW.Trod enc Try.prog W 0 (fun _ => true) true 22 v d p) :
    ∃ l, StsIn W v l := by
  obtain ⟨a, len, cap, rfl⟩ := okWide_slice Try.underlying22 hv
  obtain ⟨fuel, hf⟩ := h
  have hC : Try.prog.cellsOf 35 = 12 := by kernel_rfl
  rcases Go.Deep.open_slice Try.underlying22 hf with ⟨hcs, _⟩ | ⟨x, l, c, m, n, D, Pl, hcs, _, hl, hm, hmm, _, hcell⟩
  · simp [Value.cells] at hcs
    obtain ⟨rfl, rfl, rfl⟩ := hcs
    exact ⟨[], ⟨_, _, rfl, Nat.le_refl _, fun h => absurd h (by simp)⟩, Nat.zero_le _, fun t ht => by simp at ht⟩
  · simp [Value.cells] at hcs
    obtain ⟨rfl, rfl, rfl⟩ := hcs
    simp only [if_true] at hmm
    have each : ∀ i, i < len → ∃ t : St, StOk t ∧ ∀ j, j < 12 → W.cell? (x.add (i * 12 + j)) = t.cells[j]? := by
      intro i hi
      obtain ⟨cs', h1, h2⟩ := hcell i (by omega)
      rw [hC] at h1
      obtain ⟨_, hlen, hc'⟩ := World.cells?_some h1
      obtain ⟨xs, k, hk, hxy, _, hxl, hg⟩ := DataW.trod_struct Try.underlying35 h2
      match xs, hxl, cs', hlen with
      | [y0, y1, y2, y3, y4, y5, y6], _, [c0, c1, c2, c3, c4, c5, c6, c7, c8, c9, c10, c11], _ =>
        have g1 : Try.prog.cellsOf 3 = 1 := by kernel_rfl
        have g2 : Try.prog.cellsOf 4 = 1 := by kernel_rfl
        have g3 : Try.prog.cellsOf 9 = 1 := by kernel_rfl
        have g6 : Try.prog.cellsOf 24 = 6 := by kernel_rfl
        have q0 := hg 0 _ rfl
        have q1 := hg 1 _ rfl
        have q2 := hg 2 _ rfl
        have q3 := hg 3 _ rfl
        have q4 := hg 4 _ rfl
        have q5 := hg 5 _ rfl
        have q6 := hg 6 _ rfl
        obtain ⟨k0, e0, z0, w0⟩ := DataW.trod_int (k := .i64) (by kernel_rfl) q0
        simp [g1] at e0
        obtain ⟨k1, e1, z1, w1⟩ := DataW.trod_int (k := .i64) (by kernel_rfl) q1
        simp [g1] at e1
        obtain ⟨k2, e2, z2, w2⟩ := DataW.trod_int (k := .i64) (by kernel_rfl) q2
        simp [g1] at e2
        obtain ⟨k3, e3, z3, w3⟩ := DataW.trod_int (k := .i64) (by kernel_rfl) q3
        simp [g1] at e3
        obtain ⟨k4, e4, z4, w4⟩ := DataW.trod_int (k := .i64) (by kernel_rfl) q4
        simp [g1] at e4
        obtain ⟨ss, e5, z5, w5⟩ := DataW.trod_string (by kernel_rfl) q5
        simp [g3] at e5
        obtain ⟨zs, k9, _, _, _, hzl, hgo⟩ := DataW.trod_struct Try.underlying24 q6
        match zs, hzl with
        | [x0, x1, x2, x3, x4, x5], _ =>
          have r0 := hgo 0 _ rfl
          have r1 := hgo 1 _ rfl
          have r2 := hgo 2 _ rfl
          have r3 := hgo 3 _ rfl
          have r4 := hgo 4 _ rfl
          have r5 := hgo 5 _ rfl
          obtain ⟨ok, E0, -, -⟩ := DataW.trod_int (k := .i64) (by kernel_rfl) r0
          simp [g1, g6] at E0
          obtain ⟨ox, E1, -⟩ := DataW.trod_bool (by kernel_rfl) r1
          simp [g2, g6] at E1
          obtain ⟨on, E2, -, -⟩ := DataW.trod_int (k := .i64) (by kernel_rfl) r2
          simp [g1, g6] at E2
          obtain ⟨op, E3, -, -⟩ := DataW.trod_int (k := .i64) (by kernel_rfl) r3
          simp [g1, g6] at E3
          obtain ⟨ol, E4, -, -⟩ := DataW.trod_int (k := .i64) (by kernel_rfl) r4
          simp [g1, g6] at E4
          obtain ⟨os, E5, -, wo⟩ := DataW.trod_string (by kernel_rfl) r5
          simp [g3, g6] at E5
          subst e0 e1 e2 e3 e4 e5 E0 E1 E2 E3 E4 E5
          refine ⟨⟨k0, k1, k2, k3, k4, ss, ⟨ok, ox, on, op, ol, os⟩⟩, ⟨w0, w1, w2, w3, w4, w5, wo⟩, fun j hj => ?_⟩
          have d := hc' j (by simpa using hj)
          rw [Go.Deep.add_add] at d
          exact d
    haveI : Inhabited St := ⟨⟨0, 0, 0, 0, 0, ⟨#[]⟩, O.nil⟩⟩
    obtain ⟨f, hF⟩ := Go.Deep.choose_lt each
    refine ⟨(List.range len).map f, ⟨_, _, by rw [List.length_map, List.length_range], by simpa using hl, fun hp => ?_⟩, by simp; omega, fun t ht => ?_⟩
    · obtain ⟨b, off, spot⟩ := x
      have h00 : W.cell? ((⟨b, off, spot⟩ : Addr).add (0 * 12 + 0)) = some (.int .i64 (f 0).what) := (hF 0 (by simpa using hp)).2 0 (by decide)
      have hspot : spot = none := by simpa [Addr.add] using World.cell?_spot h00
      subst hspot
      simp only [Go.WideShapes.add_plain] at hF h00
      refine ⟨b, off, rfl, cell_some_lt h00, fun i t ht j hj => ?_⟩
      have hi : i < len := by simpa using (List.getElem?_eq_some_iff.1 ht).1
      rw [List.getElem?_map, List.getElem?_range hi] at ht
      simp only [Option.map_some, Option.some.injEq] at ht
      subst ht
      rw [Nat.add_assoc]
      exact (hF i hi).2 j hj
    · simp only [List.mem_map, List.mem_range] at ht
      obtain ⟨i, hi, rfl⟩ := ht
      exact (hF i hi).1
end Go.Proofs.Ythkhdbinkcgpgaa
/- tympanlaw11.HeapPlays: what its walk carries along. -/
namespace Go.Proofs.Ythkhdbinkcgpgaa
open Go.RowKit

set_option maxRecDepth 100000 in
set_option maxHeartbeats 1000000 in
/-- pick leaves what was there alone. -/
theorem pick_chg {w : World} {K : List (Nat × Obj)} (hK : ∀ q ∈ K, w.heap[q.1]? = some q.2) {va : Value} {l : List O} (hr : RowIn K 24 6 va l.length (l.flatMap O.cells)) (hl : l.length ≤ 100000) (k : Int) (raw : O) {p : O} (hp : pickL l k raw = p) :
    Calls Try.prog 9 #[va, .int .i64 k, raw.val] w fun e w' => e = .returned p.val ∧ Chg NoB w w' := by
  obtain ⟨kk, kx, kn, kp, kl, ks⟩ := raw
  obtain ⟨a, c, rfl, hac⟩ := hr.slice
  have R7 : ∀ o : Obj, ((w.alloc (Obj.cells #[.int .i64 kk, .bool kx, .int .i64 kn, .int .i64 kp, .int .i64 kl, .string ks] 24)).alloc o).heap[w.heap.size + 1]? = some o := fun o => by
    have := blk_new (w.alloc (Obj.cells #[.int .i64 kk, .bool kx, .int .i64 kn, .int .i64 kp, .int .i64 kl, .string ks] 24)) o
    rwa [World.size_alloc] at this
  unfold pickL at hp
  by_cases h1 : k < 0
  · rw [if_pos h1] at hp
    subst hp
    have R8 := cells_of (R7 (Obj.cells #[.int .i64 kk, .bool kx, .int .i64 kn, .int .i64 kp, .int .i64 kl, .string ks] 24))
    clear hr
    go_enter Try.func9, Try.ntmps9
    go_wp2_with fail
    refine bodyPost_ret (v := O.val (⟨kk, kx, kn, kp, kl, ks⟩ : O)) ?_ rfl ⟨rfl, ((Chg.refl NoB w).alloc _).alloc _⟩
    simp [results, Try.results9, go_sem, R8]
  rw [if_neg h1] at hp
  by_cases h2 : l = []
  · rw [if_pos h2] at hp
    subst hp; subst h2
    have R8 := cells_of (R7 (Obj.cells #[.int .i64 kk, .bool kx, .int .i64 kn, .int .i64 kp, .int .i64 kl, .string ks] 24))
    clear hr
    simp only [List.length_nil]
    go_enter Try.func9, Try.ntmps9
    go_wp2_with fail
    refine bodyPost_ret (v := O.val (⟨kk, kx, kn, kp, kl, ks⟩ : O)) ?_ rfl ⟨rfl, ((Chg.refl NoB w).alloc _).alloc _⟩
    simp [results, Try.results9, go_sem, R8]
  rw [if_neg h2] at hp
  have hpos : 0 < l.length := List.length_pos_iff.2 h2
  have hm : k.toNat % l.length < l.length := Nat.mod_lt _ hpos
  obtain ⟨o, ho⟩ : ∃ o, l[k.toNat % l.length]? = some o := ⟨_, List.getElem?_eq_getElem hm⟩
  rw [ho, Option.getD_some] at hp
  subst hp
  obtain ⟨g, cap, cur, fz, hv, hg, k1, k2, k3, k4, -⟩ : ∃ g cap cur fz, (Value.slice a l.length c) = .slice (some ⟨g, 0, none⟩) l.length cap ∧ (g, Obj.cells cur 24 fz) ∈ K ∧ l.length ≤ cap ∧ cap ≤ maxLen ∧ cur.size = cap * 6 ∧ cur.toList.take (l.length * 6) = l.flatMap O.cells ∧ (l.flatMap O.cells).length = l.length * 6 := hr.resolve_left (by rintro ⟨-, h0, -⟩; omega)
  simp only [Value.slice.injEq, true_and] at hv
  obtain ⟨rfl, rfl⟩ := hv
  have hcur : ∀ j, j < 6 → cur[k.toNat % l.length * 6 + j]? = o.cells[j]? := fun j hj => by
    rw [← Array.getElem?_toList, ← flat_at l _ j o ho hj, ← k4, List.getElem?_take, if_pos (by omega)]
  have hrem : Int.tmod k l.length = ((k.toNat % l.length : Nat) : Int) := by
    obtain ⟨kn, rfl⟩ := Int.eq_ofNat_of_zero_le (show 0 ≤ k by omega)
    rw [Int.toNat_natCast]
    rfl
  obtain ⟨ok, ox, on, op, ol, os⟩ := o
  have q0 := hcur 0 (by decide)
  have q1 := hcur 1 (by decide)
  have q2 := hcur 2 (by decide)
  have q3 := hcur 3 (by decide)
  have q4 := hcur 4 (by decide)
  have q5 := hcur 5 (by decide)
  simp only [O.cells, List.getElem?_cons_zero, List.getElem?_cons_succ, Nat.add_zero] at q0 q1 q2 q3 q4 q5
  have hpi : (0 : Int) < l.length := by omega
  have hne : ((l.length : Int) == 0) = false := by simp; omega
  have hne2 : (l.length == 0) = false := by simp; omega
  generalize hj : k.toNat % l.length = j at *
  generalize l.length = n at *
  have hji : (j : Int) < n := by omega
  have hjc : (j : Int) < c := by omega
  have hni : (n : Int) ≤ 100000 := by omega
  have Rg := cells_of (blk_alloc (blk_alloc (hK _ hg) (Obj.cells #[.int .i64 kk, .bool kx, .int .i64 kn, .int .i64 kp, .int .i64 kl, .string ks] 24)) (Obj.cells #[.int .i64 0, .bool false, .int .i64 0, .int .i64 0, .int .i64 0, .string ⟨#[]⟩] 24))
  have yg := blk_lt (hK _ hg)
  clear hcur ho hg k4 hj hr h2
  have R8 := cells_of (R7 (Obj.cells #[.int .i64 ok, .bool ox, .int .i64 on, .int .i64 op, .int .i64 ol, .string os] 24))
  clear hK
  go_enter Try.func9, Try.ntmps9
  go_wp2_with fail
  refine bodyPost_ret (v := O.val (⟨ok, ox, on, op, ol, os⟩ : O)) ?_ rfl ⟨rfl, ((Chg.refl NoB w).alloc _).alloc _⟩
  simp [results, Try.results9, go_sem, R8]
/-- Two boxes more, of new blocks. -/
theorem TS.got2 {J0 : List (Nat × Obj)} {w0 w w' : World} {hp gp : Nat} {M : List (Nat × List C)} {K : List (Nat × Obj)} {L Lr : List C} (T : TS J0 w0 hp gp M K L Lr w) (X : Chg NoB w w') {b c : Nat} {o o' : Obj} (hb : w'.heap[b]? = some o) (hn : w.heap.size ≤ b) (hc : w'.heap[c]? = some o') (hm : w.heap.size ≤ c) (hbc : b ≠ c) :
    TS J0 w0 hp gp M ((b, o) :: (c, o') :: K) L Lr w' := by
  obtain ⟨E, H, A⟩ := T
  have A1 := A.got X hc hm
  obtain ⟨h, h1, HR, X0, D, F, k, n⟩ := A1
  have A2 := A.got X hb hn
  obtain ⟨h', h1', -, -, -, -, k', n'⟩ := A2
  refine ⟨E, H, Ats.perm (K := (b, o) :: (c, o') :: (E ++ K)) ?_ ?_⟩
  · have lt := fun x hx => reps_lt (hs := h) HR x hx
    obtain ⟨hs, e1, Hs, Xs, Ds, Fs, ks, ns⟩ := A
    have ltw := reps_lt Hs
    have kk : ∀ q ∈ (b, o) :: (c, o') :: (E ++ K), w'.heap[q.1]? = some q.2 ∧ q.1 ∉ hs.flatMap HS.foot ∧ w0.heap.size ≤ q.1 := fun q hq => by
      rcases List.mem_cons.1 hq with rfl | hq
      · exact ⟨hb, fun h' => by have := ltw _ h'; simp only at this; omega, Nat.le_trans Xs.size hn⟩
      rcases List.mem_cons.1 hq with rfl | hq
      · exact ⟨hc, fun h' => by have := ltw _ h'; simp only at this; omega, Nat.le_trans Xs.size hm⟩
      · exact ⟨X.blk (ks q hq).1 id, (ks q hq).2⟩
    refine ⟨hs, e1, fun x hx => (Hs x hx).pure X, Xs.pure X, Ds, Fs, kk, ?_⟩
    rw [List.map_cons, List.map_cons, List.nodup_cons]
    rw [List.map_cons, List.nodup_cons] at n n'
    refine ⟨fun hm' => ?_, by rw [List.nodup_cons]; exact n⟩
    rcases List.mem_cons.1 hm' with e | e
    · exact hbc e
    · exact n'.1 e
  · classical refine List.perm_iff_count.2 fun q => ?_
    simp only [List.count_append, List.count_cons]
    omega
theorem six_blk {w : World} {p : Nat} {c0 c1 c2 c3 c4 c5 : Value} {T : TypeId} (hb : w.heap[p]? = some (.cells #[c0, c1, c2, c3, c4, c5] T)) (kk : Int) (kx : Bool) (kn kp kl : Int) (ks : ByteArray) :
    (((((((w.setCell ⟨p, 0, none⟩ (.int .i64 kk)).setCell ⟨p, 1, none⟩ (.bool kx)).setCell ⟨p, 2, none⟩ (.int .i64 kn)).setCell ⟨p, 3, none⟩ (.int .i64 kp)).setCell ⟨p, 4, none⟩ (.int .i64 kl)).setCell ⟨p, 5, none⟩ (.string ks))).heap[p]? = some (.cells #[.int .i64 kk, .bool kx, .int .i64 kn, .int .i64 kp, .int .i64 kl, .string ks] T) := by
  have := blk_set (blk_set (blk_set (blk_set (blk_set (blk_set hb 0 (.int .i64 kk)) 1 (.bool kx)) 2 (.int .i64 kn)) 3 (.int .i64 kp)) 4 (.int .i64 kl)) 5 (.string ks)
  simpa only [List.setIfInBounds_toArray, List.set_cons_zero, List.set_cons_succ] using this
theorem six_new {w : World} {p : Nat} (kk : Int) (kx : Bool) (kn kp kl : Int) (ks : ByteArray) (o : Obj) : (((((((w.setCell ⟨p, 0, none⟩ (.int .i64 kk)).setCell ⟨p, 1, none⟩ (.bool kx)).setCell ⟨p, 2, none⟩ (.int .i64 kn)).setCell ⟨p, 3, none⟩ (.int .i64 kp)).setCell ⟨p, 4, none⟩ (.int .i64 kl)).setCell ⟨p, 5, none⟩ (.string ks)).alloc o).heap[w.heap.size]? = some o := by
  have := blk_new ((((((w.setCell ⟨p, 0, none⟩ (.int .i64 kk)).setCell ⟨p, 1, none⟩ (.bool kx)).setCell ⟨p, 2, none⟩ (.int .i64 kn)).setCell ⟨p, 3, none⟩ (.int .i64 kp)).setCell ⟨p, 4, none⟩ (.int .i64 kl)).setCell ⟨p, 5, none⟩ (.string ks)) o
  simpa using this
theorem one_other {w : World} {p q : Nat} {o : Obj} (hq : w.heap[q]? = some o) (hne : q ≠ p) (i : Nat) (v : Value) : (w.setCell ⟨p, i, none⟩ v).heap[q]? = some o :=
  ((Chg.refl (· = p) w).setCell (p := ⟨p, i, none⟩) (.inl rfl) v).blk hq hne
theorem six_other {w : World} {p q : Nat} {o : Obj} (hq : w.heap[q]? = some o) (hne : q ≠ p) (kk : Int) (kx : Bool) (kn kp kl : Int) (ks : ByteArray) :
    (((((((w.setCell ⟨p, 0, none⟩ (.int .i64 kk)).setCell ⟨p, 1, none⟩ (.bool kx)).setCell ⟨p, 2, none⟩ (.int .i64 kn)).setCell ⟨p, 3, none⟩ (.int .i64 kp)).setCell ⟨p, 4, none⟩ (.int .i64 kl)).setCell ⟨p, 5, none⟩ (.string ks))).heap[q]? = some o :=
  one_other (one_other (one_other (one_other (one_other (one_other hq hne _ _) hne _ _) hne _ _) hne _ _) hne _ _) hne _ _
/-- The relation of HeapPlays's loop. -/
def HPI (w0 : World) (gp : Nat) (KB : List (Nat × Obj)) (m : Nat) (v5 v7 v8 v9 : Value) (W : World) : Prop :=
  ∃ (hp gq vp : Nat) (J0 E2 R : List (Nat × Obj)) (L G : List C) (all : List O), v5 = ptr hp ∧ v7 = ptr gq ∧ v8 = ptr vp ∧ RefV J0 vp G E2 ∧ RowG 24 6 R v9 all.length (all.flatMap O.cells) ∧ all.length ≤ m ∧ TS J0 w0 hp gp [(gq, G)] (E2 ++ (R ++ KB)) L L W
/-- Behind the two picks. -/
def HP2 (w9 : World) (a b : O) (v12 v13 : Value) (W : World) : Prop :=
  ∃ p q, v12 = ptr p ∧ v13 = ptr q ∧ p ≠ q ∧ w9.heap.size ≤ p ∧ w9.heap.size ≤ q ∧ Chg NoB w9 W ∧ W.heap[p]? = some (Obj.cells #[.int .i64 a.kind, .bool a.exec, .int .i64 a.n, .int .i64 a.pos, .int .i64 a.len, .string a.s] 24) ∧ W.heap[q]? = some (Obj.cells #[.int .i64 b.kind, .bool b.exec, .int .i64 b.n, .int .i64 b.pos, .int .i64 b.len, .string b.s] 24)
/-- TS of whatever lists, for a drawn region to hold. -/
def TX (J0 : List (Nat × Obj)) (w0 : World) (hp gp : Nat) (M : List (Nat × List C)) (K : List (Nat × Obj)) (W : World) : Prop := ∃ L Lr, TS J0 w0 hp gp M K L Lr W
section
variable {J0 : List (Nat × Obj)} {w0 W : World} {hp gp : Nat} {M : List (Nat × List C)} {K : List (Nat × Obj)} {L Lr : List C}
theorem TX.of (h : TS J0 w0 hp gp M K L Lr W) : TX J0 w0 hp gp M K W := ⟨L, Lr, h⟩
theorem TX.drew (h : TX J0 w0 hp gp M K W) : TX J0 w0 hp gp M K W.drew := by obtain ⟨L, Lr, T⟩ := h; exact ⟨L, Lr, T.drew⟩
theorem TX.cells {g : Nat} {cs : Array Value} {T : TypeId} {fz : Nat × Nat} (hm : (g, Obj.cells cs T fz) ∈ K) : ∀ W, TX J0 w0 hp gp M K W → ∀ i, W.cell? ⟨g, i, none⟩ = cs[i]? := by
  rintro W ⟨L, Lr, T⟩
  exact cells_of (T.box _ hm)
end
theorem TS.ownsG {J0 : List (Nat × Obj)} {w0 w : World} {hp gp : Nat} {M : List (Nat × List C)} {K R : List (Nat × Obj)} {L Lr : List C} {T' : TypeId} {sz : Nat} {v : Value} {n : Nat} {xs : List Value} (T : TS J0 w0 hp gp M (R ++ K) L Lr w) (h : RowG T' sz R v n xs) : w.ownsRow w0.heap.size T' sz v n xs := by
  obtain ⟨E, H, A⟩ := T
  exact Ats.ownsG (K := E ++ K) (A.perm (by
    classical refine List.perm_iff_count.2 fun q => ?_
    simp only [List.count_append]
    omega)) h
theorem TS.grownG {J0 : List (Nat × Obj)} {w0 w w' : World} {hp gp : Nat} {M : List (Nat × List C)} {K R : List (Nat × Obj)} {L Lr : List C} {T' : TypeId} {sz : Nat} {v v' : Value} {n m : Nat} {xs xs' : List Value} (T : TS J0 w0 hp gp M (R ++ K) L Lr w) (h : RowG T' sz R v n xs)
    (hown : w'.ownsRow w0.heap.size T' sz v' (n + m) xs') (hgr : w.grownBy w' v.ownBlock) (hob : v'.ownBlock = v.ownBlock ∨ v'.ownBlock = some w.heap.size) (hm : 0 < m) :
    ∃ R', RowG T' sz R' v' (n + m) xs' ∧ TS J0 w0 hp gp M (R' ++ K) L Lr w' := by
  obtain ⟨E, H, A⟩ := T
  obtain ⟨R', h1, A'⟩ := Ats.grownG (K := E ++ K) (A.perm (by
    classical refine List.perm_iff_count.2 fun q => ?_
    simp only [List.count_append]
    omega)) h hown hgr hob hm
  exact ⟨R', h1, E, H, A'.perm (by
    classical refine List.perm_iff_count.2 fun q => ?_
    simp only [List.count_append]
    omega)⟩
/-- The reference's Copy, the heap's Copy: what was copied last is kept, what was kept before is given up. -/
theorem ts_rcopy {J0 : List (Nat × Obj)} {w0 w : World} {hp gp : Nat} {M : List (Nat × List C)} {K : List (Nat × Obj)} {L Lr : List C} (T : TS J0 w0 hp gp M K L Lr w) :
    Calls Try.prog 8 #[ptr gp] w fun r w' => ∃ vp, r = .returned (ptr vp) ∧ ∃ J E2, RefV J vp Lr E2 ∧ TS J w0 hp gp M (E2 ++ K) L Lr w' := by
  obtain ⟨E, H, A⟩ := T
  refine (rcopy_any H A).mono ?_
  rintro r w' ⟨vp, h1, J, E2, h2, -, h3, h4⟩
  exact ⟨vp, h1, J, E2, h3, E, h2, h4.perm (by
    classical refine List.perm_iff_count.2 fun q => ?_
    simp only [List.count_append]
    omega)⟩
theorem ts_copy {J0 : List (Nat × Obj)} {w0 w : World} {hp gp gq : Nat} {K : List (Nat × Obj)} {L Lr G : List C} (T : TS J0 w0 hp gp [(gq, G)] K L Lr w) :
    Calls Try.prog 7 #[ptr hp] w fun r w' => ∃ hp', r = .returned (ptr hp') ∧ TS J0 w0 hp' gp [(hp, L)] K L Lr w' := by
  obtain ⟨E, H, A⟩ := T
  refine (at_copy A).mono ?_
  rintro r w' ⟨h1, A'⟩
  have A2 : Ats w0 w' [(gq, G), (w.heap.size, L), (hp, L)] (E ++ K) := A'.order (by
    exact ((List.Perm.swap _ _ _).cons _).trans (List.Perm.swap _ _ _))
  exact ⟨_, h1, E, H, A2.drop⟩
theorem ts_become {J0 : List (Nat × Obj)} {w0 w : World} {hp gp gq : Nat} {K : List (Nat × Obj)} {L Lr G : List C} (T : TS J0 w0 hp gp [(gq, G)] K L Lr w) :
    Calls Try.prog 17 #[ptr hp, ptr gq] w fun r w' => r = .returned (.tuple #[]) ∧ TS J0 w0 hp gp [(gq, G)] K G Lr w' := by
  obtain ⟨E, H, A⟩ := T
  exact (at_become A (List.mem_cons_self ..)).mono fun r w' ⟨h1, h2⟩ => ⟨h1, E, H, h2⟩
theorem ts_rbecome {J0 : List (Nat × Obj)} {w0 w : World} {hp gp vp : Nat} {M : List (Nat × List C)} {E2 K : List (Nat × Obj)} {L Lr G : List C} (V : RefV J0 vp G E2) (T : TS J0 w0 hp gp M (E2 ++ K) L Lr w) :
    Calls Try.prog 18 #[ptr gp, ptr vp] w fun r w' => r = .returned (.tuple #[]) ∧ TS J0 w0 hp gp M (E2 ++ K) L G w' := by
  obtain ⟨E, H, A⟩ := T
  exact (rbecome_any H V A).mono fun r w' ⟨h1, E', h2, h3⟩ => ⟨h1, E', h2, h3⟩
theorem RefV.mono {J J' : List (Nat × Obj)} {vp : Nat} {L : List C} {E : List (Nat × Obj)} (h : RefV J vp L E) (hJ : ∀ q ∈ J, q ∈ J') : RefV J' vp L E := by
  obtain ⟨R, lv, rows, h1, h2, h3, h4, h5⟩ := h
  exact ⟨R, lv, rows, h1, h2, h3, fun i c vs hi hv => (h4 i c vs hi hv).mono hJ, h5⟩
/-- A copy, as a reference's heap of its own. -/
theorem RefV.refK {J : List (Nat × Obj)} {vp : Nat} {L : List C} {E : List (Nat × Obj)} (h : RefV J vp L E) : RefK [] vp L (J ++ E) := by
  obtain ⟨R, lv, rows, rfl, h2, h3, h4, h5, h6, h7⟩ := h
  exact ⟨J, R, lv, rows, fun _ h => by simp at h, rfl, h2, h3, h4, h5, h6, h7⟩
theorem RefK.holds {J0 : List (Nat × Obj)} {gp : Nat} {L : List C} {E : List (Nat × Obj)} (h : RefK J0 gp L E) : ∀ q ∈ J0, q ∈ E := by
  obtain ⟨J, R, lv, rows, hJ, rfl, -⟩ := h
  exact fun q hq => List.mem_append_left _ (hJ q hq)
end Go.Proofs.Ythkhdbinkcgpgaa
