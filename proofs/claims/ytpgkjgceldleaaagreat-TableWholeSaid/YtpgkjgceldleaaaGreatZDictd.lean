/- Dln, Dpb -/
import Derived.Test.YtpgkjgceldleaaaGreatZDicta
import Derived.Test.YtpgkjgceldleaaaGreatZHeapc
import Derived.Test.YtpgkjgceldleaaaGreatZRefq
import Derived.Test.YtpgkjgceldleaaaGreatZHplaya
import Derived.Test.YtpgkjgceldleaaaGreatZDictb
/- dict.Len, dict.Room. -/
namespace Go.Proofs.YtpgkjgceldleaaaGreat
open Go.RowKit

set_option maxRecDepth 100000 in
theorem at_dlen {lk : Bool} {w0 w : World} {hp : Nat} {L : List C} {M : List (Nat × List C)} {K : List (Nat × Obj)} (A : Ats w0 w M K) (hm : (hp, L) ∈ M) (N : Nat) (ps : List (O × O)) (room : Nat) (D : DicAt L N (dcellk lk ps room)) (h : ps.length ≤ room) (hr : room ≤ 1000) :
    Calls Tryz.prog 19 #[ptr hp, (dicO N).val] w fun r w' => r = .returned (.tuple #[.int .i64 ps.length, .int .i64 0]) ∧ Ats w0 w' M K := by
  have HO := fun W a (A : Ats w0 W M (a :: K)) => at_dopen A hm N ps room D h hr
  have A1 := A.alloc (Obj.cells #[.int .i64 10, .bool false, .int .i64 N, .int .i64 0, .int .i64 0, .string ⟨#[]⟩] 38)
  generalize ps.length = n at *
  clear D
  go_enter Tryz.func19, Tryz.ntmps19
  go_wp2_with fail
  refine (HO _ _ A1).mono ?_
  rintro r w1 ⟨rfl, A2⟩
  go_wp2_with fail
  go_ret2
  exact ⟨rfl, A2.keep (List.sublist_cons_self _ _)⟩
set_option maxRecDepth 100000 in
theorem at_droom {lk : Bool} {w0 w : World} {hp : Nat} {L : List C} {M : List (Nat × List C)} {K : List (Nat × Obj)} (A : Ats w0 w M K) (hm : (hp, L) ∈ M) (N : Nat) (ps : List (O × O)) (room : Nat) (D : DicAt L N (dcellk lk ps room)) (h : ps.length ≤ room) (hr : room ≤ 1000) :
    Calls Tryz.prog 153 #[ptr hp, (dicO N).val] w fun r w' => r = .returned (.tuple #[.int .i64 room, .int .i64 0]) ∧ Ats w0 w' M K := by
  have HO := fun W a (A : Ats w0 W M (a :: K)) => at_dopen A hm N ps room D h hr
  have A1 := A.alloc (Obj.cells #[.int .i64 10, .bool false, .int .i64 N, .int .i64 0, .int .i64 0, .string ⟨#[]⟩] 38)
  generalize ps.length = n at *
  clear D
  go_enter Tryz.func153, Tryz.ntmps153
  go_wp2_with fail
  refine (HO _ _ A1).mono ?_
  rintro r w1 ⟨rfl, A2⟩
  go_wp2_with fail
  go_ret2
  exact ⟨rfl, A2.keep (List.sublist_cons_self _ _)⟩
end Go.Proofs.YtpgkjgceldleaaaGreat
/- A dictionary alone in a heap and in a reference's heap: Set, Drop, Get on both sides. -/
namespace Go.Proofs.YtpgkjgceldleaaaGreat
open Go.RowKit

set_option maxRecDepth 100000 in
set_option maxHeartbeats 4000000 in
/-- dict.Set of a value that may not be. -/
theorem at_dsetBad {w0 w : World} {hp : Nat} {L : List C} {M : List (Nat × List C)} {K : List (Nat × Obj)} (A : Ats w0 w M K) (hm : (hp, L) ∈ M) (N : Nat) (ps : List (O × O)) (room : Nat) (D : DicAt L N (dcell ps room)) (h : ps.length ≤ room) (hr : room ≤ 1000) (hf : ps.length < 256)
    (k v : O) {key : O} (hk : keyD L k = (key, 0)) (hmv : mayH L v = false) :
    Calls Tryz.prog 56 #[ptr hp, (dicO N).val, k.val, v.val] w fun x w' => x = .returned (.int .i64 1) ∧ Ats w0 w' M K := by
  obtain ⟨r, b, hP, -⟩ := place_at ps key v
  have HL := fun {w' : World} {K' : List (Nat × Obj)} (A' : Ats w0 w' M K') => at_look A' hm N ps room D h hr hf k hk r b (fun _ => hP) (fun z => absurd rfl z)
  have HM := fun {w' : World} {K' : List (Nat × Obj)} (A' : Ats w0 w' M K') => at_may A' v hmv hm
  clear hk hmv hP D h
  obtain ⟨kk, kx, kn, kp, kl, ks⟩ := k
  obtain ⟨ck, cx, cn, cp, cl, cs⟩ := key
  obtain ⟨vk, vx, vn, vp, vl, vs⟩ := v
  have A1 := ((A.alloc (Obj.cells #[.int .i64 10, .bool false, .int .i64 N, .int .i64 0, .int .i64 0, .string ⟨#[]⟩] 38)).alloc (Obj.cells #[.int .i64 kk, .bool kx, .int .i64 kn, .int .i64 kp, .int .i64 kl, .string ks] 38)).alloc (Obj.cells #[.int .i64 vk, .bool vx, .int .i64 vn, .int .i64 vp, .int .i64 vl, .string vs] 38)
  simp only [World.size_alloc] at A1
  go_enter Tryz.func56, Tryz.ntmps56
  go_wp2_with fail
  refine (HL A1).mono ?_
  rintro x w2 ⟨rfl, A2⟩
  have R7 := cells_of (A2.box _ (List.mem_cons_self ..))
  have l7 := blk_lt (A2.box _ (List.mem_cons_self ..))
  simp only at l7
  clear HL A1
  go_wp2_with fail
  have A3 := A2.alloc (.cells (foundC ⟨ck, cx, cn, cp, cl, cs⟩ r ps.length room b) 92)
  refine (HM A3).mono ?_
  rintro x w3 ⟨rfl, A4⟩
  go_wp2_with fail
  go_ret
  exact ⟨rfl, A4.loses (K1 := [_, _, _, _]) (Chg.refl _ _)⟩
set_option maxRecDepth 100000 in
set_option maxHeartbeats 4000000 in
/-- The reference's Set of a value that may not be. -/
theorem rset12_bad {J0 : List (Nat × Obj)} {w0 w : World} {M : List (Nat × List C)} {K : List (Nat × Obj)} {gp : Nat} {L : List C} (T : RS J0 w0 gp M K L w) (N : Nat) (ps : List (O × O)) (room : Nat) (D : DicAt L N (dcell ps room)) (h : ps.length ≤ room) (hr : room ≤ 1000)
    (k v : O) {key : O} (hk : keyD L k = (key, 0)) (hmv : mayH L v = false) :
    Calls Tryz.prog 62 #[ptr gp, (dicO N).val, k.val, v.val] w fun r w' => r = .returned (.int .i64 1) ∧ RS J0 w0 gp M K L w' := by
  obtain ⟨i, hF, -⟩ := found_at ps key v
  have HF := hid' (fun W K' (T : RS J0 w0 gp M K' L W) => T.ask fun E H A => rfind12_any H A (fun q hq => List.mem_append_left _ hq) N ps room D h hr k hk i hF)
  have HM := hid' (fun W E K' (T : RF J0 w0 gp M E K' L W) => rf_may v hmv T)
  obtain ⟨kk, kx, kn, kp, kl, ks⟩ := k
  obtain ⟨ck, cx, cn, cp, cl, cs⟩ := key
  obtain ⟨vk, vx, vn, vp, vl, vs⟩ := v
  have T1 := ((T.alloc (Obj.cells #[.int .i64 10, .bool false, .int .i64 N, .int .i64 0, .int .i64 0, .string ⟨#[]⟩] 38)).alloc (Obj.cells #[.int .i64 kk, .bool kx, .int .i64 kn, .int .i64 kp, .int .i64 kl, .string ks] 38)).alloc (Obj.cells #[.int .i64 vk, .bool vx, .int .i64 vn, .int .i64 vp, .int .i64 vl, .string vs] 38)
  simp only [World.size_alloc] at T1
  obtain ⟨b5, hb5⟩ : ∃ b5, w.heap.size = b5 := ⟨_, rfl⟩
  clear hk hmv hF D T
  go_enter Tryz.func62, Tryz.ntmps62
  go_wp2_with fail
  refine (HF.out _ _ T1).mono ?_
  rintro r w1 ⟨rfl, T2⟩
  clear T1
  rw [hb5] at T2
  clear hb5
  have T2b := T2.perm (List.Perm.swap _ _ _)
  have T3 := T2b.putO ck cx cn cp cl cs
  (try clear Rk); (try clear yk); (try clear Zk)
  have Rk := cells_of (T2b.box _ m0)
  have yk := blk_lt (T2b.box _ m0)
  have Zk := free_of (T2b.box _ m0)
  (try simp only at Rk yk Zk)
  go_upto_region 2 with (fail)
  generalize hW : World.setCell _ _ _ = w4 at *
  clear hW T2 T2b Rk yk Zk
  obtain ⟨E, H, A⟩ := T3
  obtain ⟨KK, hKK⟩ : ∃ KK, KK = (b5 + 1, Obj.cells #[.int .i64 ck, .bool cx, .int .i64 cn, .int .i64 cp, .int .i64 cl, .string cs] 38) :: (b5 + 1 + 1, Obj.cells #[.int .i64 vk, .bool vx, .int .i64 vn, .int .i64 vp, .int .i64 vl, .string vs] 38) :: (b5, Obj.cells #[.int .i64 10, .bool false, .int .i64 N, .int .i64 0, .int .i64 0, .string ⟨#[]⟩] 38) :: K := ⟨_, rfl⟩
  rw [← hKK] at A
  have mv : (b5 + 1 + 1, Obj.cells #[.int .i64 vk, .bool vx, .int .i64 vn, .int .i64 vp, .int .i64 vl, .string vs] 38) ∈ KK := by rw [hKK]; simp
  have hsub : K.Sublist KK := by rw [hKK]; exact ((List.sublist_cons_self _ _).trans (List.sublist_cons_self _ _)).trans (List.sublist_cons_self _ _)
  clear hKK
  have TF0 : RF J0 w0 gp M E KK L w4 := ⟨H, A⟩
  have QV := RF.cells (J0 := J0) (w0 := w0) (gp := gp) (M := M) (E := E) (L := L) mv
  clear H A
  go_upto_region 4 with (fail)
  refine wp_region_held_drew (S := fun W' => RF J0 w0 gp M E KK L W') (by kernel_rfl) TF0.drew (fun hHeld => ?_)
  refine wpAnyH_take (i := 0) (oi := { dst := some 28, op := _, type := _, pos := _, after := _, guard := _ }) (v := ?_) rfl (by kernel_rfl) (by kernel_rfl) (by kernel_rfl) (fun _ _ _ h => h) (Or.inl ⟨by rfl, ?_⟩) (by with_reducible assumption) ?_
  rotate_left
  · intro w hSw; go_simp; try with_reducible rfl
  try simp only [Act.put, List.setIfInBounds_toArray, List.set_cons_zero, List.set_cons_succ]
  refine wpAnyH_take (i := 1) (oi := { dst := some 29, op := _, type := _, pos := _, after := _, guard := _ }) (v := ?_) rfl (by kernel_rfl) (by kernel_rfl) (by kernel_rfl) (fun _ _ _ h => h) (Or.inl ⟨by rfl, ?_⟩) (by with_reducible assumption) ?_
  rotate_left
  · intro w hSw; go_simp; try with_reducible rfl
  try simp only [Act.put, List.setIfInBounds_toArray, List.set_cons_zero, List.set_cons_succ]
  refine wpAnyH_ready (rs := [2]) (by kernel_rfl) (by simp) ?_
  refine AllReadyH.cons (o := { dst := some 30, op := _, type := _, pos := _, after := _, guard := _ }) rfl (fun K' hK' => ?_) AllReadyH.nil
  go_simp
  refine (HM.out _ _ _ (by first | exact TF0 | exact TF0.drew)).mono ?_
  rintro r w5 ⟨rfl, T5⟩
  go_simp
  refine hK'.out _ _ ?_ (fun hHeld2 => ?_)
  · with_reducible assumption
  clear hK' K'
  try simp only [Act.put, List.setIfInBounds_toArray, List.set_cons_zero, List.set_cons_succ]
  refine wpAnyH_take (i := 3) (oi := { dst := some 31, op := _, type := _, pos := _, after := _, guard := _ }) (v := ?_) rfl (by kernel_rfl) (by kernel_rfl) (by kernel_rfl) (fun _ _ _ h => h) (Or.inl ⟨by rfl, ?_⟩) (by with_reducible assumption) ?_
  rotate_left
  · intro w hSw; go_simp; try with_reducible rfl
  try simp only [Act.put, List.setIfInBounds_toArray, List.set_cons_zero, List.set_cons_succ]
  refine wpAnyH_take (i := 4) (oi := { dst := some 32, op := _, type := _, pos := _, after := _, guard := _ }) (v := ?_) rfl (by kernel_rfl) (by kernel_rfl) (by kernel_rfl) (fun _ _ _ h => h) (Or.inl ⟨by rfl, ?_⟩) (by with_reducible assumption) ?_
  rotate_left
  · intro w hSw; go_simp; try with_reducible rfl
  try simp only [Act.put, List.setIfInBounds_toArray, List.set_cons_zero, List.set_cons_succ]
  refine wpAnyH_take (i := 5) (oi := { dst := some 33, op := _, type := _, pos := _, after := _, guard := _ }) (v := undef) rfl (by kernel_rfl) (by kernel_rfl) (by kernel_rfl) (fun _ _ _ h => h) (Or.inr ⟨by rfl, rfl⟩) (by with_reducible assumption) ?_
  try simp only [Act.put, List.setIfInBounds_toArray, List.set_cons_zero, List.set_cons_succ]
  refine wpAnyH_take (i := 6) (oi := { dst := some 34, op := _, type := _, pos := _, after := _, guard := _ }) (v := undef) rfl (by kernel_rfl) (by kernel_rfl) (by kernel_rfl) (fun _ _ _ h => h) (Or.inr ⟨by rfl, rfl⟩) (by with_reducible assumption) ?_
  try simp only [Act.put, List.setIfInBounds_toArray, List.set_cons_zero, List.set_cons_succ]
  refine wpAnyH_take (i := 7) (oi := { dst := some 35, op := _, type := _, pos := _, after := _, guard := _ }) (v := undef) rfl (by kernel_rfl) (by kernel_rfl) (by kernel_rfl) (fun _ _ _ h => h) (Or.inr ⟨by rfl, rfl⟩) (by with_reducible assumption) ?_
  try simp only [Act.put, List.setIfInBounds_toArray, List.set_cons_zero, List.set_cons_succ]
  refine wpAnyH_take (i := 8) (oi := { dst := some 36, op := _, type := _, pos := _, after := _, guard := _ }) (v := undef) rfl (by kernel_rfl) (by kernel_rfl) (by kernel_rfl) (fun _ _ _ h => h) (Or.inr ⟨by rfl, rfl⟩) (by with_reducible assumption) ?_
  try simp only [Act.put, List.setIfInBounds_toArray, List.set_cons_zero, List.set_cons_succ]
  refine wpAnyH_take (i := 9) (oi := { dst := some 37, op := _, type := _, pos := _, after := _, guard := _ }) (v := undef) rfl (by kernel_rfl) (by kernel_rfl) (by kernel_rfl) (fun _ _ _ h => h) (Or.inr ⟨by rfl, rfl⟩) (by with_reducible assumption) ?_
  try simp only [Act.put, List.setIfInBounds_toArray, List.set_cons_zero, List.set_cons_succ]
  refine wpAnyH_take (i := 10) (oi := { dst := some 38, op := _, type := _, pos := _, after := _, guard := _ }) (v := undef) rfl (by kernel_rfl) (by kernel_rfl) (by kernel_rfl) (fun _ _ _ h => h) (Or.inr ⟨by rfl, rfl⟩) (by with_reducible assumption) ?_
  try simp only [Act.put, List.setIfInBounds_toArray, List.set_cons_zero, List.set_cons_succ]
  refine wpAnyH_take (i := 11) (oi := { dst := some 39, op := _, type := _, pos := _, after := _, guard := _ }) (v := undef) rfl (by kernel_rfl) (by kernel_rfl) (by kernel_rfl) (fun _ _ _ h => h) (Or.inr ⟨by rfl, rfl⟩) (by with_reducible assumption) ?_
  try simp only [Act.put, List.setIfInBounds_toArray, List.set_cons_zero, List.set_cons_succ]
  refine wpAnyH_take (i := 12) (oi := { dst := some 40, op := _, type := _, pos := _, after := _, guard := _ }) (v := undef) rfl (by kernel_rfl) (by kernel_rfl) (by kernel_rfl) (fun _ _ _ h => h) (Or.inr ⟨by rfl, rfl⟩) (by with_reducible assumption) ?_
  try simp only [Act.put, List.setIfInBounds_toArray, List.set_cons_zero, List.set_cons_succ]
  refine wpAnyH_take (i := 13) (oi := { dst := some 41, op := _, type := _, pos := _, after := _, guard := _ }) (v := undef) rfl (by kernel_rfl) (by kernel_rfl) (by kernel_rfl) (fun _ _ _ h => h) (Or.inr ⟨by rfl, rfl⟩) (by with_reducible assumption) ?_
  try simp only [Act.put, List.setIfInBounds_toArray, List.set_cons_zero, List.set_cons_succ]
  refine wpAnyH_take (i := 14) (oi := { dst := some 42, op := _, type := _, pos := _, after := _, guard := _ }) (v := ?_) rfl (by kernel_rfl) (by kernel_rfl) (by kernel_rfl) (fun _ _ _ h => h) (Or.inl ⟨by rfl, ?_⟩) (by with_reducible assumption) ?_
  rotate_left
  · intro w hSw; go_simp; try with_reducible rfl
  try simp only [Act.put, List.setIfInBounds_toArray, List.set_cons_zero, List.set_cons_succ]
  refine wpAnyH_take (i := 15) (oi := { dst := some 27, op := _, type := _, pos := _, after := _, guard := _ }) (v := ?_) rfl (by kernel_rfl) (by kernel_rfl) (by kernel_rfl) (fun _ _ _ h => h) (Or.inl ⟨by rfl, ?_⟩) (by with_reducible assumption) ?_
  rotate_left
  · intro w hSw; go_simp; try with_reducible rfl
  try simp only [Act.put, List.setIfInBounds_toArray, List.set_cons_zero, List.set_cons_succ]
  refine wpAnyH_done (by kernel_rfl) ?_ _
  have T5 : RF J0 w0 gp M E KK L w5 := by assumption
  go_wp2_with fail
  go_ret
  exact ⟨rfl, T5.rs.keep hsub⟩
/-! ### Alone -/
theorem one_dic (ps : List (O × O)) (room : Nat) (h : ps.length ≤ room) (hr : room ≤ 1000) : DicAt [dcell ps room] 0 (dcell ps room) := ⟨rfl, rfl, rfl, rfl, by simp only [dItems_length ps room h]; omega, by decide⟩
theorem one_may (ps : List (O × O)) (room : Nat) (h : ps.length ≤ room) (_hr : room ≤ 1000) (o : O) : mayH [dcell ps room] o = mayH [dcell [] room] o := by
  have := may_put [dcell [] room] 0 (dcell [] room) (dcell ps room) rfl rfl (by simp [C.size, dItems_length ps room h, dItems_length [] room (Nat.zero_le _)]) o
  simpa using this
theorem may_un (L : List C) (o : O) : mayH L (unO o) = mayH L o := by
  unfold mayH
  rw [mayO_un]
  rfl
theorem keyD_may {L : List C} {o key : O} (h : keyD L o = (key, 0)) : mayH L key = true := by
  unfold keyD at h
  split at h
  · simp at h
  · split at h
    · simp at h
    · rename_i hm
      split at h
      · split at h
        · simp at h
        · simp only [Prod.mk.injEq, and_true] at h
          subst h
          exact may_name L _ false (by omega)
      · simp only [Prod.mk.injEq, and_true] at h
        subst h
        rw [may_un]
        simpa using hm
/-- All that lies in a dictionary may lie there. -/
def GoodP (room : Nat) (ps : List (O × O)) : Prop := ∀ p ∈ ps, mayH [dcell [] room] p.1 = true ∧ mayH [dcell [] room] p.2 = true
theorem GoodP.all {room : Nat} {ps : List (O × O)} (g : GoodP room ps) (h : ps.length ≤ room) (hr : room ≤ 1000) : ∀ p ∈ ps, mayH [dcell ps room] p.1 = true ∧ mayH [dcell ps room] p.2 = true := fun p hp => by
  rw [one_may ps room h hr, one_may ps room h hr]; exact g p hp
theorem GoodP.set {room : Nat} {ps : List (O × O)} (g : GoodP room ps) (k v : O) (hk : mayH [dcell [] room] k = true) (hv : mayH [dcell [] room] v = true) : GoodP room (setK ps k v) := by
  induction ps with
  | nil => intro p hp; simp only [setK, List.mem_singleton] at hp; subst hp; exact ⟨hk, hv⟩
  | cons q ps ih =>
    intro p hp
    unfold setK at hp
    split at hp
    · rcases List.mem_cons.1 hp with rfl | hp
      · exact ⟨(g q (List.mem_cons_self ..)).1, hv⟩
      · exact g p (List.mem_cons_of_mem _ hp)
    · rcases List.mem_cons.1 hp with rfl | hp
      · exact g _ (List.mem_cons_self ..)
      · exact ih (fun p hp => g p (List.mem_cons_of_mem _ hp)) p hp
theorem GoodP.erase {room : Nat} {ps : List (O × O)} (g : GoodP room ps) (i : Nat) : GoodP room (ps.eraseIdx i) := fun p hp => g p (List.mem_of_mem_eraseIdx hp)
section
variable {J0 : List (Nat × Obj)} {w0 : World} {hp gp : Nat} {M : List (Nat × List C)}
/-- Set, on both sides. -/
theorem dset_both (ps : List (O × O)) (room : Nat) (h : ps.length ≤ room) (hr : room ≤ 1000) (hf : ps.length < 256) (g : GoodP room ps) (k v : O) : ∃ ps' e, ps'.length ≤ ps.length + 1 ∧ ps'.length ≤ room ∧ GoodP room ps' ∧
    (∀ W K Lr, TS J0 w0 hp gp M K [dcell ps room] Lr W → Calls Tryz.prog 56 #[ptr hp, (dicO (0 : Nat)).val, k.val, v.val] W fun x w' => x = .returned (.int .i64 e) ∧ TS J0 w0 hp gp M K [dcell ps' room] Lr w') ∧
    (∀ W K L, TS J0 w0 hp gp M K L [dcell ps room] W → Calls Tryz.prog 62 #[ptr gp, (dicO (0 : Nat)).val, k.val, v.val] W fun x w' => x = .returned (.int .i64 e) ∧ TS J0 w0 hp gp M K L [dcell ps' room] w') := by
  have D := one_dic ps room h hr
  obtain ⟨key, e, hk⟩ : ∃ key e, keyD [dcell ps room] k = (key, e) := ⟨_, _, rfl⟩
  by_cases he : e = 0
  · subst he
    have hmk := keyD_may hk
    by_cases hv : mayH [dcell ps room] v = true
    · have hmk' := hmk; have hv' := hv
      rw [one_may ps room h hr] at hmk' hv'
      obtain ⟨r, b, hP, hQ⟩ := place_at ps key v
      obtain ⟨i, hF, hR⟩ := found_at ps key v
      by_cases hg : ∃ u, getK ps key = some u
      · obtain ⟨u, hu⟩ := hg
        rcases hQ with ⟨rfl, kk, u1, h1, h2, -, -⟩ | ⟨-, h1, -⟩
        · rcases hR with ⟨hi, kk', u2, h3, h4, -, -⟩ | ⟨-, h3, -⟩
          · have hlen : (setK ps key v).length = ps.length := by rw [← h2, List.length_set]
            refine ⟨setK ps key v, 0, by omega, by omega, g.set key v hmk' hv', fun W K Lr T => ?_, fun W K L T => ?_⟩
            · exact T.doH fun K' A => at_dset A 0 ps room D h hr hf k v hk hv hmk r true hP (.inl ⟨rfl, rfl, kk, u1, h1, by rw [h2]; rfl⟩)
            · exact rset12_any T 0 ps room D h hr k v hk hv hmk i hF (.inl ⟨hi, rfl, kk', u2, h3, by rw [h4]; rfl⟩)
          · rw [hu] at h3; simp at h3
        · rw [hu] at h1; simp at h1
      · rcases hQ with ⟨-, kk, u1, -, -, -, h1⟩ | ⟨rfl, h1, h2, -⟩
        · exact absurd ⟨_, h1⟩ hg
        rcases hR with ⟨-, kk, u1, -, -, -, h3⟩ | ⟨hi, -, -, -⟩
        · exact absurd ⟨_, h3⟩ hg
        by_cases hlt : ps.length < room
        · refine ⟨setK ps key v, 0, by rw [h2]; simp, by rw [h2]; simp; omega, g.set key v hmk' hv', fun W K Lr T => ?_, fun W K L T => ?_⟩
          · exact T.doH fun K' A => at_dset A 0 ps room D h hr hf k v hk hv hmk r false hP (.inr (.inl ⟨rfl, hlt, rfl, by rw [h2]; rfl⟩))
          · exact rset12_any T 0 ps room D h hr k v hk hv hmk i hF (.inr (.inl ⟨hi, hlt, rfl, by rw [h2]; rfl⟩))
        · refine ⟨ps, 20, by omega, h, g, fun W K Lr T => ?_, fun W K L T => ?_⟩
          · exact T.doH fun K' A => at_dset A 0 ps room D h hr hf k v hk hv hmk r false hP (.inr (.inr ⟨rfl, by omega, rfl, rfl⟩))
          · exact rset12_any T 0 ps room D h hr k v hk hv hmk i hF (.inr (.inr ⟨hi, by omega, rfl, rfl⟩))
    · have hv' : mayH [dcell ps room] v = false := by simpa using hv
      refine ⟨ps, 1, by omega, h, g, fun W K Lr T => ?_, fun W K L T => ?_⟩
      · exact T.doH fun K' A => at_dsetBad A (List.mem_cons_self ..) 0 ps room D h hr hf k v hk hv'
      · exact rset12_bad T 0 ps room D h hr k v hk hv'
  · refine ⟨ps, e, by omega, h, g, fun W K Lr T => ?_, fun W K L T => ?_⟩
    · exact T.doH fun K' A => at_dsetErr A (List.mem_cons_self ..) 0 ps room D h hr hf k v hk he
    · exact rset12_err T 0 ps room D h hr k v hk he
/-- Get, on both sides. -/
theorem dget_both (ps : List (O × O)) (room : Nat) (h : ps.length ≤ room) (hr : room ≤ 1000) (hf : ps.length < 256) (k : O) : ∃ v e,
    (∀ W K Lr, TS J0 w0 hp gp M K [dcell ps room] Lr W → Calls Tryz.prog 18 #[ptr hp, (dicO (0 : Nat)).val, k.val] W fun x w' => x = .returned (.tuple #[O.val v, .int .i64 e]) ∧ TS J0 w0 hp gp M K [dcell ps room] Lr w') ∧
    (∀ W K L, TS J0 w0 hp gp M K L [dcell ps room] W → Calls Tryz.prog 203 #[ptr gp, (dicO (0 : Nat)).val, k.val] W fun x w' => x = .returned (.tuple #[O.val v, .int .i64 e]) ∧ TS J0 w0 hp gp M K L [dcell ps room] w') := by
  have D := one_dic ps room h hr
  obtain ⟨key, e, hk⟩ : ∃ key e, keyD [dcell ps room] k = (key, e) := ⟨_, _, rfl⟩
  by_cases he : e = 0
  · subst he
    rcases hg : getK ps key with _ | u
    · refine ⟨O.nil, 9, fun W K Lr T => ?_, fun W K L T => ?_⟩
      · exact T.doH fun K' A => at_dgetK A (List.mem_cons_self ..) 0 ps room D h hr hf k hk O.nil 9 (.inr ⟨hg, rfl, rfl⟩)
      · exact T.ask fun E H A => rgetK_any H A (fun q hq => List.mem_append_left _ hq) 0 ps room D h hr k hk (.inr (.inl ⟨rfl, hg, rfl, rfl⟩))
    · refine ⟨u, 0, fun W K Lr T => ?_, fun W K L T => ?_⟩
      · exact T.doH fun K' A => at_dgetK A (List.mem_cons_self ..) 0 ps room D h hr hf k hk u 0 (.inl ⟨hg, rfl⟩)
      · exact T.ask fun E H A => rgetK_any H A (fun q hq => List.mem_append_left _ hq) 0 ps room D h hr k hk (.inr (.inr ⟨rfl, hg, rfl⟩))
  · refine ⟨O.nil, e, fun W K Lr T => ?_, fun W K L T => ?_⟩
    · exact T.doH fun K' A => at_dgetErr A (List.mem_cons_self ..) 0 ps room D h hr hf k hk he
    · exact T.ask fun E H A => rgetK_any H A (fun q hq => List.mem_append_left _ hq) 0 ps room D h hr k hk (.inl ⟨he, rfl, rfl⟩)
end
end Go.Proofs.YtpgkjgceldleaaaGreat
