/- Ust, Utt, Udk, Utq, Uq -/
import Derived.Test.YtpgkjgceldleaaaGreatZTabla
import Derived.Test.YtpgkjgceldleaaaGreatZScf
import Derived.Test.YtpgkjgceldleaaaGreatZTablb
import Derived.Test.YtpgkjgceldleaaaGreatZDlk
import Derived.Test.YtpgkjgceldleaaaGreatZTablc
/- Walk: scope.Store, where the key is found in another dictionary than the lowest. -/
namespace Go.Proofs.YtpgkjgceldleaaaGreat
open Go.RowKit

theorem HeapS.of20 {w0 W : World} {M : List (Nat × List C)} {K : List (Nat × Obj)} {hp : Nat} {L : List C} (A : Ats w0 W ((hp, L) :: M) K) : HeapS w0 M K hp W := ⟨L, A⟩
theorem first_cells (d0 : O) (ds : List O) (cur : Array Value) (h4 : cur.toList.take ((d0 :: ds).length * 6) = (d0 :: ds).flatMap O.cells) (j : Nat) (hj : j < 6) : cur[j]? = d0.cells[j]? := by
  have h : (cur.toList.take ((d0 :: ds).length * 6))[j]? = cur.toList[j]? := List.getElem?_take_of_lt (by simp; omega)
  rw [← Array.getElem?_toList, ← h, h4, List.flatMap_cons, List.getElem?_append_left (by rw [cells_length]; exact hj)]
set_option maxRecDepth 100000 in
set_option maxHeartbeats 2000000 in
theorem scp_store {w0 w : World} {M : List (Nat × List C)} {K : List (Nat × Obj)} {sp hp : Nat} {ds : List O} {d0 d vf : O} {L L' : List C} {e : Int} (S : ScpAt w0 w ((hp, L) :: M) K sp hp (d0 :: ds)) (hl : ds.length ≤ 1000) (k v : O) (hne : d.n ≠ d0.n)
    (HF : ∀ w2 K2, ScpAt w0 w2 ((hp, L) :: M) K2 sp hp (d0 :: ds) → Calls Tryz.prog 70 #[ptr sp, k.val] w2 fun x w' => x = .returned (.tuple #[vf.val, d.val, .int .i64 0]) ∧ ScpAt w0 w' ((hp, L) :: M) K2 sp hp (d0 :: ds))
    (HS : ∀ w2 K2, Ats w0 w2 ((hp, L) :: M) K2 → Calls Tryz.prog 56 #[ptr hp, d.val, k.val, v.val] w2 fun x w' => x = .returned (.int .i64 e) ∧ Ats w0 w' ((hp, L') :: M) K2) :
    Calls Tryz.prog 148 #[ptr sp, k.val, v.val] w fun x w' => x = .returned (.int .i64 e) ∧ ScpAt w0 w' ((hp, L') :: M) K sp hp (d0 :: ds) := by
  have HF := hid' HF
  have HS := hid' HS
  have hne' : (d.n == d0.n) = false := by simpa using hne
  obtain ⟨kk, kx, kn, kp, kl, ks⟩ := k
  obtain ⟨vk, vx, vn, vp, vl, vs⟩ := v
  obtain ⟨uk, ux, un, up, ul, us⟩ := d
  obtain ⟨fk, fx, fn, fp, fl, fs⟩ := vf
  have S1 := (S.alloc (Obj.cells #[.int .i64 kk, .bool kx, .int .i64 kn, .int .i64 kp, .int .i64 kl, .string ks] 38)).alloc (Obj.cells #[.int .i64 vk, .bool vx, .int .i64 vn, .int .i64 vp, .int .i64 vl, .string vs] 38)
  simp only [World.size_alloc] at S1
  clear S hne
  simp only at hne'
  have R1 := cells_of (S1.box _ m0)
  have R2 := cells_of (S1.box _ m1)
  go_enter Tryz.func148, Tryz.ntmps148
  go_wp2_with fail
  refine (HF.out _ _ S1).mono ?_
  rintro r w2 ⟨rfl, S2⟩
  have S3 := (S2.alloc (Obj.cells #[.int .i64 fk, .bool fx, .int .i64 fn, .int .i64 fp, .int .i64 fl, .string fs] 38)).alloc (Obj.cells #[.int .i64 uk, .bool ux, .int .i64 un, .int .i64 up, .int .i64 ul, .string us] 38)
  simp only [World.size_alloc] at S3
  clear S1 R1 R2 S2
  go_upto_region 3 with (fail)
  generalize w2.heap.size + 1 = b8 at *
  generalize w2.heap.size = b7 at *
  generalize World.alloc _ _ = w3 at *
  generalize w.heap.size + 1 = b5 at *
  generalize w.heap.size = b4 at *
  obtain ⟨g, cap, cur, h1, h2, h3, h4, A⟩ := S3
  have q := first_cells d0 ds cur h4
  have hlen : ds.length + 1 ≤ cap := h1
  have q0 := q 0 (by decide)
  have q1 := q 1 (by decide)
  have q2 := q 2 (by decide)
  have q3 := q 3 (by decide)
  have q4 := q 4 (by decide)
  have q5 := q 5 (by decide)
  obtain ⟨n, hn⟩ : ∃ n, (d0 :: ds).length = n + 1 := ⟨ds.length, rfl⟩
  have HB : Hid (∀ w', Ats w0 w' ((hp, L') :: M) ((g, .cells cur 38) :: (sp, scpBox hp g (n + 1) cap) :: K) → ScpAt w0 w' ((hp, L') :: M) K sp hp (d0 :: ds)) := hid' (fun w' A' => ⟨g, cap, cur, h1, h2, h3, h4, by rw [hn]; exact A'⟩)
  clear q h1 h2 h3 h4
  rw [hn] at A
  have hn2 : n = ds.length := by simpa using hn.symm
  have hni : (n : Int) ≤ 1000 := by omega
  have hnc : (n : Int) + 1 ≤ cap := by omega
  have h0n : (0 : Int) ≤ n := by omega
  have h0m : (0 : Int) < (n : Int) + 1 := by omega
  clear hn hn2 hl hlen
  obtain ⟨dk, dx, dn, dp, dl, dS⟩ := d0
  simp only [O.cells, List.getElem?_cons_zero, List.getElem?_cons_succ, Nat.add_zero] at q0 q1 q2 q3 q4 q5
  have hq : (un == dn) = false := hne'
  (try clear Rg); (try clear yg); (try clear Zg)
  have Rg := cells_of (A.box _ m0)
  have yg := blk_lt (A.box _ m0)
  (try clear Rs); (try clear ys); (try clear Zs)
  have Rs := cells_of (A.box _ m1)
  have ys := blk_lt (A.box _ m1)
  (try clear Ru); (try clear yu); (try clear Zu)
  have Ru := cells_of (A.box _ m2)
  have yu := blk_lt (A.box _ m2)
  (try clear Rf); (try clear yf); (try clear Zf)
  have Rf := cells_of (A.box _ m3)
  have yf := blk_lt (A.box _ m3)
  (try simp only at Rg yg Rs ys Ru yu Rf yf)
  have HA := hid' A
  go_quiet (fail)
  clear A Rg yg Rs ys Ru yu Rf yf q0 q1 q2 q3 q4 q5
  have A5 := HA.out.pure ((Chg.refl NoB w3).drewN nq)
  clear HA
  go_upto_region 7 with (fail)
  generalize w3.drewN nq = w4 at *
  obtain ⟨KB, hKB⟩ : ∃ KB, KB = (g, Obj.cells cur 38) :: (sp, scpBox hp g (n + 1) cap) :: (b8, Obj.cells #[.int .i64 uk, .bool ux, .int .i64 un, .int .i64 up, .int .i64 ul, .string us] 38) :: (b7, Obj.cells #[.int .i64 fk, .bool fx, .int .i64 fn, .int .i64 fp, .int .i64 fl, .string fs] 38) :: (b5, Obj.cells #[.int .i64 vk, .bool vx, .int .i64 vn, .int .i64 vp, .int .i64 vl, .string vs] 38) :: (b4, Obj.cells #[.int .i64 kk, .bool kx, .int .i64 kn, .int .i64 kp, .int .i64 kl, .string ks] 38) :: K := ⟨_, rfl⟩
  have n1 : (sp, scpBox hp g (n + 1) cap) ∈ KB := by rw [hKB]; simp
  have n2 : (b8, Obj.cells #[.int .i64 uk, .bool ux, .int .i64 un, .int .i64 up, .int .i64 ul, .string us] 38) ∈ KB := by rw [hKB]; simp
  have n3 : (b5, Obj.cells #[.int .i64 vk, .bool vx, .int .i64 vn, .int .i64 vp, .int .i64 vl, .string vs] 38) ∈ KB := by rw [hKB]; simp
  have n4 : (b4, Obj.cells #[.int .i64 kk, .bool kx, .int .i64 kn, .int .i64 kp, .int .i64 kl, .string ks] 38) ∈ KB := by rw [hKB]; simp
  rw [← hKB] at A5
  have HKB := hid' hKB
  have R1 := HeapS.cellsOf (w0 := w0) (M := M) (hp := hp) n1
  have R2 := HeapS.cellsOf (w0 := w0) (M := M) (hp := hp) n2
  have R3 := HeapS.cellsOf (w0 := w0) (M := M) (hp := hp) n3
  have R4 := HeapS.cellsOf (w0 := w0) (M := M) (hp := hp) n4
  have l1 := blk_lt (A5.box _ n1)
  have l2 := blk_lt (A5.box _ n2)
  have l3 := blk_lt (A5.box _ n3)
  have l4 := blk_lt (A5.box _ n4)
  simp only at l1 l2 l3 l4
  have S1 : HeapS w0 M KB hp w4 := ⟨_, A5⟩
  have HA := hid' A5
  have HS := hid' (fun w2 => HS.out w2 KB)
  clear A5 hKB n1 n2 n3 n4 HF
  go_region_held3 (fun W' => HeapS w0 M KB hp W') (first | (with_reducible assumption) | (with_reducible exact HeapS.drew (by with_reducible assumption)) | (with_reducible exact HeapS.of20 A4))
    ((go_at_call 56; refine (HS.out _ (by first | (with_reducible exact HA.out) | (with_reducible exact HA.out.drew))).mono ?_; rintro r w4 ⟨rfl, A4⟩))
  go_wp2_with fail
  go_ret
  rw [HKB.out] at A4
  exact ⟨rfl, HB.out _ (A4.keep (((((List.sublist_cons_self _ _).trans (List.sublist_cons_self _ _)).trans ((List.sublist_cons_self _ _).trans (List.sublist_cons_self _ _)))).cons_cons _ |>.cons_cons _))⟩
end Go.Proofs.YtpgkjgceldleaaaGreat
/- table.Do at each operator: what it makes of operands and dictionaries. -/
namespace Go.Proofs.YtpgkjgceldleaaaGreat
open Go.RowKit

theorem kinds1 {k : Int} {a : O} (h : isK k a.kind = true) : ∀ (i : Nat) (k' : Int) (o : O), ([k] : List Int)[i]? = some k' → [a][i]? = some o → isK k' o.kind = true := fun i k' o h1 h2 => by
  rcases i with _ | i
  · simp at h1 h2; subst h1 h2; exact h
  · simp at h1
theorem kinds2 {k l : Int} {a b : O} (h : isK k a.kind = true) (h' : isK l b.kind = true) : ∀ (i : Nat) (k' : Int) (o : O), ([k, l] : List Int)[i]? = some k' → [a, b][i]? = some o → isK k' o.kind = true := fun i k' o h1 h2 => by
  rcases i with _ | _ | i
  · simp at h1 h2; subst h1 h2; exact h
  · simp at h1 h2; subst h1 h2; exact h'
  · simp at h1
theorem Gave.plain {w0 w' : World} {M : List (Nat × List C)} {K : List (Nat × Obj)} {cp hp sp wb n c : Nat} {ds l : List O} {a : Option Addr} {e : Int} {r : Ending} (h : r = .returned (.int .i64 e) ∧ TabAt w0 w' M ((wb, wkBox hp cp sp (.slice a n c) (.slice none 0 0)) :: K) cp hp sp ds l) : Gave w0 M K cp hp sp ds l wb n [] e r w' :=
  ⟨h.1, a, c, _, [], h.2, .inl ⟨rfl, rfl⟩⟩
theorem may_iO (v : Int) (h : -2147483647 ≤ v) (h' : v ≤ 2147483647) : mayO (iO v) = true := by
  simp [mayO, eqO, bareO, O.nil]
  omega
section
variable {w0 w : World} {K : List (Nat × Obj)} {cp hp sp : Nat} {ds ds' l : List O} {L L' : List C} {M : List (Nat × List C)} {e : Int}
theorem td_def (a b : O) (S : TabAt w0 w ((hp, L) :: M) K cp hp sp ds (l ++ [a, b])) (ha : isK (-3) a.kind = true) (hb : isK (-1) b.kind = true) (hH : HeldAll L [a, b])
    (H : ∀ w2 K2, TabAt w0 w2 ((hp, L) :: M) K2 cp hp sp ds (l ++ [a, b]) → Calls Tryz.prog 28 #[ptr cp, a.val, b.val] w2 fun x w' => x = .returned (.int .i64 e) ∧ TabAt w0 w' ((hp, L') :: M) K2 cp hp sp ds' (l ++ [a, b])) :
    Calls Tryz.prog 44 #[ptr hp, ptr cp, ptr sp, .int .i64 62] w fun r w' => r = .returned (.int .i64 e) ∧ TabAt w0 w' ((hp, L') :: M) K cp hp sp ds' (if e = 0 then l else l ++ [a, b]) := by
  refine tdo_62 (gv := []) S m0 rfl (kinds2 ha hb) hH (fun w' K' wb g cur hc hg S' => (m_def S' m0 (List.mem_cons_of_mem _ hg) hc (fun w2 S2 => H w2 _ S2)).mono fun r w2 h => Gave.plain h) ?_
  by_cases he : e = 0
  · right
    subst he
    refine ⟨rfl, by simp, ?_, fun o h => by simp at h⟩
    have := S.len
    simp at this ⊢
    omega
  · left
    exact ⟨he, by rw [if_neg he]⟩
theorem td_store (a b : O) (S : TabAt w0 w ((hp, L) :: M) K cp hp sp ds (l ++ [a, b])) (ha : isK (-3) a.kind = true) (hb : isK (-1) b.kind = true) (hH : HeldAll L [a, b])
    (H : ∀ w2 K2, TabAt w0 w2 ((hp, L) :: M) K2 cp hp sp ds (l ++ [a, b]) → Calls Tryz.prog 148 #[ptr cp, a.val, b.val] w2 fun x w' => x = .returned (.int .i64 e) ∧ TabAt w0 w' ((hp, L') :: M) K2 cp hp sp ds' (l ++ [a, b])) :
    Calls Tryz.prog 44 #[ptr hp, ptr cp, ptr sp, .int .i64 64] w fun r w' => r = .returned (.int .i64 e) ∧ TabAt w0 w' ((hp, L') :: M) K cp hp sp ds' (if e = 0 then l else l ++ [a, b]) := by
  refine tdo_64 (gv := []) S m0 rfl (kinds2 ha hb) hH (fun w' K' wb g cur hc hg S' => (m_store S' m0 (List.mem_cons_of_mem _ hg) hc (fun w2 S2 => H w2 _ S2)).mono fun r w2 h => Gave.plain h) ?_
  by_cases he : e = 0
  · right
    subst he
    refine ⟨rfl, by simp, ?_, fun o h => by simp at h⟩
    have := S.len
    simp at this ⊢
    omega
  · left
    exact ⟨he, by rw [if_neg he]⟩
theorem td_undef (a b : O) (S : TabAt w0 w ((hp, L) :: M) K cp hp sp ds (l ++ [a, b])) (ha : isK (1024) a.kind = true) (hb : isK (-3) b.kind = true) (hH : HeldAll L [a, b])
    (H : ∀ w2 K2, TabAt w0 w2 ((hp, L) :: M) K2 cp hp sp ds (l ++ [a, b]) → Calls Tryz.prog 150 #[ptr hp, a.val, b.val] w2 fun x w' => x = .returned (.int .i64 e) ∧ TabAt w0 w' ((hp, L') :: M) K2 cp hp sp ds' (l ++ [a, b])) :
    Calls Tryz.prog 44 #[ptr hp, ptr cp, ptr sp, .int .i64 66] w fun r w' => r = .returned (.int .i64 e) ∧ TabAt w0 w' ((hp, L') :: M) K cp hp sp ds' (if e = 0 then l else l ++ [a, b]) := by
  refine tdo_66 (gv := []) S m0 rfl (kinds2 ha hb) hH (fun w' K' wb g cur hc hg S' => (m_undef S' m0 (List.mem_cons_of_mem _ hg) hc (fun w2 S2 => H w2 _ S2)).mono fun r w2 h => Gave.plain h) ?_
  by_cases he : e = 0
  · right
    subst he
    refine ⟨rfl, by simp, ?_, fun o h => by simp at h⟩
    have := S.len
    simp at this ⊢
    omega
  · left
    exact ⟨he, by rw [if_neg he]⟩
theorem td_begin (a : O) (S : TabAt w0 w ((hp, L) :: M) K cp hp sp ds (l ++ [a])) (ha : isK (1024) a.kind = true) (hH : HeldAll L [a])
    (H : ∀ w2 K2, TabAt w0 w2 ((hp, L) :: M) K2 cp hp sp ds (l ++ [a]) → Calls Tryz.prog 146 #[ptr cp, a.val] w2 fun x w' => x = .returned (.int .i64 e) ∧ TabAt w0 w' ((hp, L') :: M) K2 cp hp sp ds' (l ++ [a])) :
    Calls Tryz.prog 44 #[ptr hp, ptr cp, ptr sp, .int .i64 60] w fun r w' => r = .returned (.int .i64 e) ∧ TabAt w0 w' ((hp, L') :: M) K cp hp sp ds' (if e = 0 then l else l ++ [a]) := by
  refine tdo_60 (gv := []) S m0 rfl (kinds1 ha) hH (fun w' K' wb g cur hc hg S' => (m_begin S' m0 (List.mem_cons_of_mem _ hg) hc (fun w2 S2 => H w2 _ S2)).mono fun r w2 h => Gave.plain h) ?_
  by_cases he : e = 0
  · right
    subst he
    refine ⟨rfl, by simp, ?_, fun o h => by simp at h⟩
    have := S.len
    simp at this ⊢
    omega
  · left
    exact ⟨he, by rw [if_neg he]⟩
theorem td_end (S : TabAt w0 w ((hp, L) :: M) K cp hp sp ds (l))
    (H : ∀ w2 K2, TabAt w0 w2 ((hp, L) :: M) K2 cp hp sp ds (l) → Calls Tryz.prog 147 #[ptr cp] w2 fun x w' => x = .returned (.int .i64 e) ∧ TabAt w0 w' ((hp, L') :: M) K2 cp hp sp ds' (l)) :
    Calls Tryz.prog 44 #[ptr hp, ptr cp, ptr sp, .int .i64 61] w fun r w' => r = .returned (.int .i64 e) ∧ TabAt w0 w' ((hp, L') :: M) K cp hp sp ds' (if e = 0 then l else l) := by
  have S : TabAt w0 w ((hp, L) :: M) K cp hp sp ds (l ++ []) := by rw [List.append_nil]; exact S
  refine tdo_61 (ops := []) (gv := []) S m0 0 rfl (by omega) (fun w' K' wb g S' => ?_) ?_
  · rw [List.append_nil] at S' ⊢
    exact (m_end S' m0 (fun w2 S2 => H w2 _ S2)).mono fun r w2 h => Gave.plain h
  by_cases he : e = 0
  · right
    subst he
    refine ⟨rfl, by simp, ?_, fun o h => by simp at h⟩
    have := S.len
    simp at this ⊢
    omega
  · left
    exact ⟨he, by rw [if_neg he]; simp⟩
theorem td_load (a v d : O) (S : TabAt w0 w ((hp, L) :: M) K cp hp sp ds (l ++ [a])) (ha : isK (-3) a.kind = true) (hH : HeldAll L [a])
    (H : ∀ w2 K2, TabAt w0 w2 ((hp, L) :: M) K2 cp hp sp ds (l ++ [a]) → Calls Tryz.prog 70 #[ptr cp, a.val] w2 fun x w' => x = .returned (.tuple #[v.val, d.val, .int .i64 e]) ∧ TabAt w0 w' ((hp, L) :: M) K2 cp hp sp ds (l ++ [a])) (hv : e = 0 → mayO v = true) :
    Calls Tryz.prog 44 #[ptr hp, ptr cp, ptr sp, .int .i64 63] w fun r w' => r = .returned (.int .i64 e) ∧ TabAt w0 w' ((hp, L) :: M) K cp hp sp ds (if e = 0 then l ++ [v] else l ++ [a]) := by
  refine tdo_63 (gv := [v]) S m0 rfl (kinds1 ha) hH (fun w' K' wb g cur hc hg S' => m_load S' hg hc (fun w2 K2 S2 => H w2 K2 S2)) ?_
  by_cases he : e = 0
  · right
    refine ⟨he, by rw [if_pos he], ?_, fun o h => by rw [List.mem_singleton.1 h]; exact hv he⟩
    have := S.len
    simp at this ⊢
    omega
  · left
    exact ⟨he, by rw [if_neg he]⟩
theorem td_where (a v d : O) (S : TabAt w0 w ((hp, L) :: M) K cp hp sp ds (l ++ [a])) (ha : isK (-3) a.kind = true) (hH : HeldAll L [a])
    (H : ∀ w2 K2, TabAt w0 w2 ((hp, L) :: M) K2 cp hp sp ds (l ++ [a]) → Calls Tryz.prog 70 #[ptr cp, a.val] w2 fun x w' => x = .returned (.tuple #[v.val, d.val, .int .i64 0]) ∧ TabAt w0 w' ((hp, L) :: M) K2 cp hp sp ds (l ++ [a])) (hv : mayO d = true) (hl : l.length + 2 ≤ 200) :
    Calls Tryz.prog 44 #[ptr hp, ptr cp, ptr sp, .int .i64 67] w fun r w' => r = .returned (.int .i64 0) ∧ TabAt w0 w' ((hp, L) :: M) K cp hp sp ds (l ++ [d, bO true]) :=
  tdo_67 (gv := [d, bO true]) S m0 rfl (kinds1 ha) hH (fun w' K' wb g cur hc hg S' => m_where S' hg hc (fun w2 K2 S2 => H w2 K2 S2)) (.inr ⟨rfl, rfl, hl, fun o h => by
    simp only [List.mem_cons, List.not_mem_nil, or_false] at h
    rcases h with rfl | rfl
    · exact hv
    · decide +kernel⟩)
theorem td_known (a b v : O) (S : TabAt w0 w ((hp, L) :: M) K cp hp sp ds (l ++ [a, b])) (ha : isK 1024 a.kind = true) (hb : isK (-3) b.kind = true) (hH : HeldAll L [a, b]) (he : e = 0 ∨ e = 9)
    (H : ∀ w2 K2, TabAt w0 w2 ((hp, L) :: M) K2 cp hp sp ds (l ++ [a, b]) → Calls Tryz.prog 18 #[ptr hp, a.val, b.val] w2 fun x w' => x = .returned (.tuple #[v.val, .int .i64 e]) ∧ TabAt w0 w' ((hp, L) :: M) K2 cp hp sp ds (l ++ [a, b])) :
    Calls Tryz.prog 44 #[ptr hp, ptr cp, ptr sp, .int .i64 65] w fun r w' => r = .returned (.int .i64 0) ∧ TabAt w0 w' ((hp, L) :: M) K cp hp sp ds (l ++ [bO (decide (e = 0))]) :=
  tdo_65 (gv := [bO (decide (e = 0))]) S m0 rfl (kinds2 ha hb) hH (fun w' K' wb g cur hc hg S' => m_known S' hg hc he (fun w2 K2 S2 => H w2 K2 S2)) (.inr ⟨rfl, rfl, by have := S.len; simp at this ⊢; omega, fun o h => by
    rw [List.mem_singleton.1 h]
    cases decide (e = 0) <;> decide +kernel⟩)
theorem td_dict (a v : O) (S : TabAt w0 w ((hp, L) :: M) K cp hp sp ds (l ++ [a])) (ha : isK 8 a.kind = true) (hH : HeldAll L [a])
    (H : ∀ w2 K2, TabAt w0 w2 ((hp, L) :: M) K2 cp hp sp ds (l ++ [a]) → Calls Tryz.prog 54 #[ptr hp, .int .i64 a.n] w2 fun x w' => x = .returned (.tuple #[v.val, .int .i64 0]) ∧ TabAt w0 w' ((hp, L') :: M) K2 cp hp sp ds (l ++ [a])) (hv : mayO v = true) :
    Calls Tryz.prog 44 #[ptr hp, ptr cp, ptr sp, .int .i64 59] w fun r w' => r = .returned (.int .i64 0) ∧ TabAt w0 w' ((hp, L') :: M) K cp hp sp ds (l ++ [v]) :=
  tdo_59 (gv := [v]) S m0 rfl (kinds1 ha) hH (fun w' K' wb g cur hc hg S' => m_dict S' hg hc (fun w2 K2 S2 => H w2 K2 S2)) (.inr ⟨rfl, rfl, by have := S.len; simp at this ⊢; omega, fun o h => by rw [List.mem_singleton.1 h]; exact hv⟩)
theorem td_count (S : TabAt w0 w ((hp, L) :: M) K cp hp sp ds l) (hd : ds.length ≤ 1000) (hl : l.length + 1 ≤ 200) :
    Calls Tryz.prog 44 #[ptr hp, ptr cp, ptr sp, .int .i64 69] w fun r w' => r = .returned (.int .i64 0) ∧ TabAt w0 w' ((hp, L) :: M) K cp hp sp ds (l ++ [iO ds.length]) := by
  have S : TabAt w0 w ((hp, L) :: M) K cp hp sp ds (l ++ []) := by rw [List.append_nil]; exact S
  exact tdo_69 (ops := []) (gv := [iO ds.length]) S m0 0 rfl (by omega) (fun w' K' wb g S' => m_countDictStack S' hd) (.inr ⟨rfl, rfl, hl, fun o h => by rw [List.mem_singleton.1 h]; exact may_iO _ (by omega) (by omega)⟩)
theorem td_max (a : O) (n : Int) (S : TabAt w0 w ((hp, L) :: M) K cp hp sp ds (l ++ [a])) (ha : isK 1024 a.kind = true) (hH : HeldAll L [a]) (h0 : 0 ≤ n) (h1 : n ≤ 1000)
    (H : ∀ w2 K2, TabAt w0 w2 ((hp, L) :: M) K2 cp hp sp ds (l ++ [a]) → Calls Tryz.prog 153 #[ptr hp, a.val] w2 fun x w' => x = .returned (.tuple #[.int .i64 n, .int .i64 0]) ∧ TabAt w0 w' ((hp, L) :: M) K2 cp hp sp ds (l ++ [a])) :
    Calls Tryz.prog 44 #[ptr hp, ptr cp, ptr sp, .int .i64 70] w fun r w' => r = .returned (.int .i64 0) ∧ TabAt w0 w' ((hp, L) :: M) K cp hp sp ds (l ++ [iO n]) :=
  tdo_70 (gv := [iO n]) S m0 rfl (kinds1 ha) hH (fun w' K' wb g cur hc hg S' => m_maxLength S' hg hc n h0 h1 (fun w2 K2 S2 => H w2 K2 S2)) (.inr ⟨rfl, rfl, by have := S.len; simp at this ⊢; omega, fun o h => by rw [List.mem_singleton.1 h]; exact may_iO _ (by omega) (by omega)⟩)
end
end Go.Proofs.YtpgkjgceldleaaaGreat
/- dict.Set of a new key at a full dictionary that is locked; dict.Room at any. -/
namespace Go.Proofs.YtpgkjgceldleaaaGreat
open Go.RowKit

set_option maxRecDepth 100000 in
theorem at_dfullLk {w0 w : World} {hp : Nat} {L : List C} {M : List (Nat × List C)} {K : List (Nat × Obj)} (A : Ats w0 w ((hp, L) :: M) K) (N : Nat) (ps : List (O × O)) (room : Nat) (D : DicAt L N (dcellk true ps room)) (h : ps.length ≤ room) :
    Calls Tryz.prog 108 #[ptr hp, (dicO N).val] w fun x w' => x = .returned (.int .i64 1) ∧ Ats w0 w' ((hp, L) :: M) K := by
  have e0 : (dcellk true ps room).items[(0 : Int).toNat]? = some (numO ps.length) := by simp [dItems]
  have S2 := D.get 0 (by omega) _ e0
  have S3 := D.setLk rfl 0 (by omega) (by simp only [dItems_length ps room h]; omega) (numO ps.length)
  have A1 := A.alloc (.cells #[.int .i64 10, .bool false, .int .i64 N, .int .i64 0, .int .i64 0, .string ⟨#[]⟩] 38)
  go_enter Tryz.func108, Tryz.ntmps108
  go_wp2_with fail
  refine (at_get A1 _ _ S2 (List.mem_cons_self ..)).mono ?_
  rintro x w2 ⟨rfl, A2⟩
  have R3 := cells_of (A2.box _ (List.mem_cons_self ..))
  have l3 := blk_lt (A2.box _ (List.mem_cons_self ..))
  simp only at l3
  clear A1
  go_wp2_with fail
  refine (at_set (A2.alloc _) _ _ _ S3).mono ?_
  rintro x w3 ⟨rfl, A3⟩
  clear R3 A2
  go_wp2
  go_ret
  exact ⟨rfl, (A3.keep (List.sublist_cons_self _ _)).keep (List.sublist_cons_self _ _)⟩
set_option maxRecDepth 100000 in
set_option maxHeartbeats 8000000 in
theorem at_dsetFullLk {w0 w : World} {hp : Nat} {L : List C} {M : List (Nat × List C)} {K : List (Nat × Obj)} (A : Ats w0 w ((hp, L) :: M) K) (N : Nat) (ps : List (O × O)) (room : Nat) (D : DicAt L N (dcellk true ps room)) (h : ps.length = room) (hr : room ≤ 1000) (hf : ps.length < 256)
    (k v : O) {key : O} (hk : keyD L k = (key, 0)) (hmv : mayH L v = true) (hg : getK ps key = none) :
    Calls Tryz.prog 56 #[ptr hp, (dicO N).val, k.val, v.val] w fun x w' => x = .returned (.int .i64 1) ∧ Ats w0 w' ((hp, L) :: M) K := by
  obtain ⟨r, b, hP, hQ⟩ := place_at ps key v
  obtain ⟨-, u1, u2, hu, -, -, h2⟩ | ⟨rfl, -⟩ := hQ
  case inl => rw [h2] at hg; simp at hg
  have h0 : r = 0 := by
    rcases hP with ⟨hb, -⟩ | ⟨-, h0, -⟩
    · simp at hb
    · exact h0
  subst h0
  have HL := fun {w' : World} {K' : List (Nat × Obj)} (A' : Ats w0 w' ((hp, L) :: M) K') => at_look A' (List.mem_cons_self ..) N ps room D (by omega) hr hf k hk 0 false (fun _ => hP) (fun z => absurd rfl z)
  have HM := fun {w' : World} {K' : List (Nat × Obj)} (A' : Ats w0 w' ((hp, L) :: M) K') => at_may A' v hmv (List.mem_cons_self ..)
  have HF := fun {w' : World} {K' : List (Nat × Obj)} (A' : Ats w0 w' ((hp, L) :: M) K') => at_dfullLk A' N ps room D (by omega)
  have hli : (ps.length : Int) ≤ 1000 := by omega
  have hlr : (room : Int) ≤ ps.length := by omega
  clear hk hP D hg hmv h
  obtain ⟨kk, kx, kn, kp, kl, ks⟩ := k
  obtain ⟨ck, cx, cn, cp, cl, cs⟩ := key
  obtain ⟨vk, vx, vn, vp, vl, vs⟩ := v
  have A1 := ((A.alloc (.cells #[.int .i64 10, .bool false, .int .i64 N, .int .i64 0, .int .i64 0, .string ⟨#[]⟩] 38)).alloc (Obj.cells #[.int .i64 kk, .bool kx, .int .i64 kn, .int .i64 kp, .int .i64 kl, .string ks] 38)).alloc (Obj.cells #[.int .i64 vk, .bool vx, .int .i64 vn, .int .i64 vp, .int .i64 vl, .string vs] 38)
  simp only [World.size_alloc] at A1
  go_enter Tryz.func56, Tryz.ntmps56
  go_wp2_with fail
  refine (HL A1).mono ?_
  rintro x w2 ⟨rfl, A2⟩
  have R7 := cells_of (A2.box _ (List.mem_cons_self ..))
  have l7 := blk_lt (A2.box _ (List.mem_cons_self ..))
  simp only at l7
  clear HL A1
  go_wp2_with fail
  have A3 := A2.alloc (.cells (foundC ⟨ck, cx, cn, cp, cl, cs⟩ 0 ps.length room false) 92)
  refine (HM A3).mono ?_
  rintro x w3 ⟨rfl, A4⟩
  have R9 := cells_of (A4.box _ (List.mem_cons_self ..))
  have R7' := cells_of (A4.box _ (List.mem_cons_of_mem _ (List.mem_cons_self ..)))
  have R5 := cells_of (A4.box _ (List.mem_cons_of_mem _ (List.mem_cons_of_mem _ (List.mem_cons_of_mem _ (List.mem_cons_self ..)))))
  clear R7 A2 A3 HM
  go_wp2_with fail
  refine (HF A4).mono ?_
  rintro x w4 ⟨rfl, A5⟩
  go_wp2
  go_ret
  exact ⟨rfl, A5.loses (K1 := [_, _, _, _]) (Chg.refl _ _)⟩
end Go.Proofs.YtpgkjgceldleaaaGreat
/- The laws' functions of layer 20 as steps between states that a drawn region can hold. -/
namespace Go.Proofs.YtpgkjgceldleaaaGreat
open Go.RowKit

set_option maxRecDepth 100000 in
theorem stk_clear20 {w0 w : World} {M : List (Nat × List C)} {K : List (Nat × Obj)} {sp : Nat} {l : List O} (S : StkAt w0 w M K sp l) :
    Calls Tryz.prog 20 #[ptr sp] w fun e w' => e = .returned (.tuple #[]) ∧ StkAt w0 w' M K sp [] := by
  obtain ⟨-, R, lv, hR, A⟩ := S
  have A1 := A.keep (List.sublist_append_right R _)
  (try clear Rb); (try clear yb); (try clear Zb)
  have Rb := cells_of (A1.box _ m0)
  have yb := blk_lt (A1.box _ m0)
  have Zb := free_of (A1.box _ m0)
  (try simp only at Rb yb Zb)
  go_enter Tryz.func20, Tryz.ntmps20
  go_wp2_with fail
  go_end0
  exact ⟨rfl, ⟨by simp, by simp⟩, [], .slice none 0 0, .inl ⟨rfl, rfl, rfl, rfl⟩, A1.put 0 _⟩
set_option maxRecDepth 100000 in
set_option maxHeartbeats 1000000 in
theorem scp_beginE {w0 w : World} {M : List (Nat × List C)} {K : List (Nat × Obj)} {sp hp : Nat} {ds : List O} {L : List C} (S : ScpAt w0 w M K sp hp ds) (hm : (hp, L) ∈ M) (d : O) (hd : dictE L d = 0) (h2 : ds.length = 20) :
    Calls Tryz.prog 146 #[ptr sp, d.val] w fun e w' => e = .returned (.int .i64 11) ∧ ScpAt w0 w' M K sp hp ds := by
  obtain ⟨g, cap, cur, i1, i2, i3, i4, A⟩ := S
  have HB : Hid (∀ w', Ats w0 w' M ((g, .cells cur 38) :: (sp, scpBox hp g 20 cap) :: K) → ScpAt w0 w' M K sp hp ds) := hid' (fun w' A' => ⟨g, cap, cur, i1, i2, i3, i4, by rw [h2]; exact A'⟩)
  rw [h2] at A
  clear i1 i2 i3 i4 h2
  have hs : (sp, scpBox hp g 20 cap) ∈ (g, Obj.cells cur 38) :: (sp, scpBox hp g 20 cap) :: K := m1
  obtain ⟨kk, kx, kn, kp, kl, ks⟩ := d
  have HD := hid' (fun w' A' => scp_dictionary (w0 := w0) (w := w') A' (List.mem_cons_of_mem (w.heap.size, Obj.cells #[.int .i64 kk, .bool kx, .int .i64 kn, .int .i64 kp, .int .i64 kl, .string ks] 38) hs) hm ⟨kk, kx, kn, kp, kl, ks⟩)
  rw [hd] at HD
  have A1 := A.alloc (Obj.cells #[.int .i64 kk, .bool kx, .int .i64 kn, .int .i64 kp, .int .i64 kl, .string ks] 38)
  clear A hd
  go_enter Tryz.func146, Tryz.ntmps146
  go_wp2_with fail
  refine (HD.out _ A1).mono ?_
  rintro e w2 ⟨rfl, A2⟩
  (try clear Rs); (try clear ys); (try clear Zs)
  have Rs := cells_of (A2.box _ m2)
  have ys := blk_lt (A2.box _ m2)
  (try simp only at Rs ys)
  have A3 := A2.keep (List.sublist_cons_self _ _)
  clear A1 A2 HD hs
  go_wp2_with fail
  go_ret
  exact ⟨rfl, HB.out _ A3⟩
/-- What a law of layer 20 has: the heap's cells, the dictionaries in scope, the operands. -/
abbrev TX := List C × List O × List O
def TQ (w0 : World) (hp cp sp : Nat) (KB : List (Nat × Obj)) (x : TX) (W : World) : Prop := TabAt w0 W [(hp, x.1)] KB cp hp sp x.2.1 x.2.2
section
variable {w0 : World} {hp cp sp gp tp : Nat} {dv : Value} {KB : List (Nat × Obj)}
theorem TQ.drew {x : TX} {W : World} (h : TQ w0 hp cp sp KB x W) : TQ w0 hp cp sp KB x W.drew := TabAt.drew h
theorem TQ.pure {x : TX} {W W' : World} (h : TQ w0 hp cp sp KB x W) (X : Chg NoB W W') : TQ w0 hp cp sp KB x W' := TabAt.pure h X
theorem TQ.grow {x : TX} {W : World} (h : TQ w0 hp cp sp KB x W) (o : Obj) : TQ w0 hp cp sp KB x (W.alloc o) := TabAt.pure h ((Chg.refl NoB W).alloc o)
theorem TQ.chg {x : TX} {W : World} (h : TQ w0 hp cp sp KB x W) : Chg NoB w0 W := TabAt.chg h
theorem TQ.cells {f : Nat → TX} {g : Nat} {cs : Array Value} {T : TypeId} {fz : Nat × Nat} (hm : (g, Obj.cells cs T fz) ∈ KB) : ∀ W, (∃ n, TQ w0 hp cp sp KB (f n) W) → ∀ i, W.cell? ⟨g, i, none⟩ = cs[i]? := fun _ ⟨_, h⟩ => cells_of (TabAt.box h _ hm)
theorem TQ.cells1 {x : TX} {g : Nat} {cs : Array Value} {T : TypeId} {fz : Nat × Nat} {W : World} (h : TQ w0 hp cp sp KB x W) (hm : (g, Obj.cells cs T fz) ∈ KB) : ∀ i, W.cell? ⟨g, i, none⟩ = cs[i]? := cells_of (TabAt.box h _ hm)
theorem TQ.box {x : TX} {W : World} (S : TQ w0 hp cp sp KB x W) (q : Nat × Obj) (hq : q ∈ KB) : W.heap[q.1]? = some q.2 := TabAt.box S q hq
theorem TQ.alloc {x : TX} {W : World} (S : TQ w0 hp cp sp KB x W) (o : Obj) : TQ w0 hp cp sp ((W.heap.size, o) :: KB) x (W.alloc o) := TabAt.alloc S o
theorem TQ.keep {K' : List (Nat × Obj)} {x : TX} {W : World} (S : TQ w0 hp cp sp KB x W) (h : K'.Sublist KB) : TQ w0 hp cp sp K' x W := TabAt.keep S h
theorem TQ.perm {K' : List (Nat × Obj)} {x : TX} {W : World} (S : TQ w0 hp cp sp KB x W) (h : KB.Perm K') : TQ w0 hp cp sp K' x W := TabAt.perm S h
theorem TQ.num {x : TX} (n : Int) (W : World) (S : TQ w0 hp cp sp KB x W) :
    Calls Tryz.prog 12 #[.int .i64 n] W fun e w' => e = .returned (iO n).val ∧ TQ w0 hp cp sp KB x w' :=
  (num20_any n W).mono fun _ _ h => ⟨h.1, S.pure h.2⟩
theorem TQ.name {x : TX} (s : ByteArray) (W : World) (S : TQ w0 hp cp sp KB x W) :
    Calls Tryz.prog 11 #[.string s] W fun e w' => e = .returned (nameO s).val ∧ TQ w0 hp cp sp KB x w' :=
  (name20_any s W).mono fun _ _ h => ⟨h.1, S.pure h.2⟩
/-- One operator, behind operands that lie in a row. -/
theorem TQ.doing {x y : TX} (gv : List O) (k : Nat) (hk : gv.length = k) (hroom : x.2.2.length + k ≤ 200) (hmay : ∀ o ∈ gv, mayO o = true) (nm : ByteArray) (n e : Int) (b : Bool)
    (HN : ∀ w', Calls Tryz.prog 8 #[.string nm] w' fun r w2 => r = .returned (.tuple #[.int .i64 n, .bool b]) ∧ Chg NoB w' w2)
    (HD : ∀ w' K', TabAt w0 w' [(hp, x.1)] K' cp hp sp x.2.1 (x.2.2 ++ gv) → Calls Tryz.prog 44 #[ptr hp, ptr cp, ptr sp, .int .i64 n] w' fun r w2 => r = .returned (.int .i64 e) ∧ TabAt w0 w2 [(hp, y.1)] K' cp hp sp y.2.1 y.2.2)
    (cs : Array Value) (hc : cs.toList = gv.flatMap O.cells) (W : World) (S : TQ w0 hp cp sp KB x W) :
    Calls Tryz.prog 10 #[xVal hp cp sp gp dv tp, .string nm, .slice (some ⟨W.heap.size, 0, none⟩) k k] (W.alloc (.cells cs 38)) fun r w' => r = .returned (.int .i64 e) ∧ TQ w0 hp cp sp KB y w' :=
  (do20_any (TabAt.alloc S (.cells cs 38)) k hk hroom hmay (some ⟨W.heap.size, 0, none⟩) k (Nat.le_refl _) (fun m o ho => ⟨W.heap.size, 0, cs, _, rfl, m0, fun j hj => reads_of hc m o ho j hj⟩) nm n e b HN HD).mono fun _ _ h => ⟨h.1, h.2.keep (List.sublist_cons_self _ _)⟩
theorem TQ.doing0 {x y : TX} (nm : ByteArray) (n e : Int) (b : Bool) (hroom : x.2.2.length ≤ 200)
    (HN : ∀ w', Calls Tryz.prog 8 #[.string nm] w' fun r w2 => r = .returned (.tuple #[.int .i64 n, .bool b]) ∧ Chg NoB w' w2)
    (HD : ∀ w' K', TabAt w0 w' [(hp, x.1)] K' cp hp sp x.2.1 x.2.2 → Calls Tryz.prog 44 #[ptr hp, ptr cp, ptr sp, .int .i64 n] w' fun r w2 => r = .returned (.int .i64 e) ∧ TabAt w0 w2 [(hp, y.1)] K' cp hp sp y.2.1 y.2.2)
    (W : World) (S : TQ w0 hp cp sp KB x W) :
    Calls Tryz.prog 10 #[xVal hp cp sp gp dv tp, .string nm, .slice none 0 0] W fun r w' => r = .returned (.int .i64 e) ∧ TQ w0 hp cp sp KB y w' :=
  do20_any (gv := []) S 0 rfl hroom (fun o h => by simp at h) none 0 (Nat.le_refl _) (fun m o ho => by simp at ho) nm n e b HN (fun w' K' S' => HD w' K' (by rw [List.append_nil] at S'; exact S'))
theorem TQ.top {x y : TX} (o : O) (hx : x = (y.1, y.2.1, y.2.2 ++ [o])) (W : World) (S : TQ w0 hp cp sp KB x W) :
    Calls Tryz.prog 13 #[xVal hp cp sp gp dv tp] W fun r w' => r = .returned o.val ∧ TQ w0 hp cp sp KB y w' := by
  subst hx; exact top20_any S
theorem TQ.len {x : TX} (k : Int) (hk : (x.2.2.length : Int) = k) (W : World) (S : TQ w0 hp cp sp KB x W) :
    Calls Tryz.prog 14 #[ptr sp] W fun r w' => r = .returned (.int .i64 k) ∧ TQ w0 hp cp sp KB x w' := by
  subst hk
  exact TabAt.stk S (fun _ S2 => (stk_len S2).mono fun _ _ h => ⟨h.1, h.2 ▸ S2⟩)
theorem TQ.clear {x y : TX} (hy : (x.1, x.2.1, ([] : List O)) = y) (W : World) (S : TQ w0 hp cp sp KB x W) :
    Calls Tryz.prog 20 #[ptr sp] W fun r w' => r = .returned (.tuple #[]) ∧ TQ w0 hp cp sp KB y w' := by
  subst hy; exact TabAt.stk S (fun _ S2 => stk_clear20 S2)
theorem TQ.depth {x : TX} (k : Int) (hk : (x.2.1.length : Int) = k) (W : World) (S : TQ w0 hp cp sp KB x W) :
    Calls Tryz.prog 23 #[ptr cp] W fun r w' => r = .returned (.int .i64 k) ∧ TQ w0 hp cp sp KB x w' := by
  subst hk
  exact TabAt.scp S (fun _ S2 => (scp_depth S2).mono fun _ _ h => ⟨h.1, h.2 ▸ S2⟩)
/-- Behind fresh. -/
def FreshQ (w0 : World) (KB : List (Nat × Obj)) (r : Ending) (w' : World) : Prop := ∃ hp cp sp gp x tp, r = .returned (xVal hp cp sp gp (.pointer x) tp) ∧ TQ w0 hp cp sp KB (hQ sysQ, dsQ 2, []) w'
theorem TQ.fresh (W : World) (X : Chg NoB w0 W) : Calls Tryz.prog 9 #[] W (FreshQ w0 []) := fresh20_any (Ats.start X)
end
/-! ### Operators by what is in the heap of dictionaries -/
section
variable {w0 : World} {hp cp sp : Nat}
theorem isK_name (s : ByteArray) : isK (-3) (nameO s).kind = true := by
  show isK (-3) 5 = true
  decide +kernel
theorem isK_any (k : Int) (h : k = 3 ∨ k = 5 ∨ k = 10 ∨ k = 7) : isK (-1) k = true := by rcases h with rfl | rfl | rfl | rfl <;> decide +kernel
theorem held_two {L : List C} {a b : O} (ha : isK 1792 a.kind = true → mayH L a = true) (hb : isK 1792 b.kind = true → mayH L b = true) : HeldAll L [a, b] := fun o ho h => by
  simp only [List.mem_cons, List.not_mem_nil, or_false] at ho
  rcases ho with rfl | rfl
  · exact ha h
  · exact hb h
theorem held_one {L : List C} {a : O} (ha : isK 1792 a.kind = true → mayH L a = true) : HeldAll L [a] := fun o ho h => by rw [List.mem_singleton.1 ho] at h ⊢; exact ha h
theorem held_name {L : List C} (s : ByteArray) : isK 1792 (nameO s).kind = true → mayH L (nameO s) = true := fun h => absurd h (by show ¬ isK 1792 5 = true; decide +kernel)
theorem held_int {L : List C} (n : Int) : isK 1792 (iO n).kind = true → mayH L (iO n) = true := fun h => absurd h (by show ¬ isK 1792 3 = true; decide +kernel)
end
end Go.Proofs.YtpgkjgceldleaaaGreat
/- table.Do's operators by a heap of dictionaries. -/
namespace Go.Proofs.YtpgkjgceldleaaaGreat
open Go.RowKit

theorem isK_dict (i : Int) : isK 1024 (dicO i).kind = true := by
  show isK 1024 10 = true
  decide +kernel
theorem isK_int (n : Int) : isK 8 (iO n).kind = true := by
  show isK 8 3 = true
  decide +kernel
section
variable {w0 w : World} {K : List (Nat × Obj)} {cp hp sp : Nat} {l : List O}
theorem qt_def (Q : List DQ) (h : OKQ Q) (n : Nat) (ps : List (O × O)) (room : Nat) (hq : Q[n]? = some (ps, room, false)) (hr : ps.length < room) (s : ByteArray) (hs : s.size ≤ 100) (v : O) (hv : mayH (hQ Q) v = true) (hk : isK (-1) v.kind = true)
    (S : TabAt w0 w [(hp, hQ Q)] K cp hp sp (dsQ (n + 1)) (l ++ [nameO s, v])) :
    Calls Tryz.prog 44 #[ptr hp, ptr cp, ptr sp, .int .i64 62] w fun r w' => r = .returned (.int .i64 0) ∧ TabAt w0 w' [(hp, hQ (Q.set n (setK ps (nameO s) v, room, false)))] K cp hp sp (dsQ (n + 1)) l := by
  have := td_def (e := 0) (L' := hQ (Q.set n (setK ps (nameO s) v, room, false))) (ds' := dsQ (n + 1)) (nameO s) v S (isK_name s) hk (held_two (held_name s) (fun _ => hv)) (fun w2 K2 S2 => S2.scp (fun K' S' => q_def Q h n S' ps room hq hr s hs v hv))
  rwa [if_pos rfl] at this
theorem qt_find (Q : List DQ) (h : OKQ Q) (n : Nat) (h0 : 0 < n) (hn : n ≤ Q.length) (s : ByteArray) (hs : s.size ≤ 100) (S : TabAt w0 w [(hp, hQ Q)] K cp hp sp (dsQ n) l) :
    Calls Tryz.prog 70 #[ptr cp, (nameO s).val] w fun x w' => x = .returned (.tuple #[(lookN Q (nameO s) n).1.val, (lookN Q (nameO s) n).2.1.val, .int .i64 (lookN Q (nameO s) n).2.2]) ∧ TabAt w0 w' [(hp, hQ Q)] K cp hp sp (dsQ n) l :=
  S.scp (fun K' S' => q_find Q h n S' h0 hn s hs)
theorem qt_load (Q : List DQ) (h : OKQ Q) (n : Nat) (h0 : 0 < n) (hn : n ≤ Q.length) (s : ByteArray) (hs : s.size ≤ 100) {v d : O} (hl : lookN Q (nameO s) n = (v, d, 0)) (hv : mayO v = true) (S : TabAt w0 w [(hp, hQ Q)] K cp hp sp (dsQ n) (l ++ [nameO s])) :
    Calls Tryz.prog 44 #[ptr hp, ptr cp, ptr sp, .int .i64 63] w fun r w' => r = .returned (.int .i64 0) ∧ TabAt w0 w' [(hp, hQ Q)] K cp hp sp (dsQ n) (l ++ [v]) := by
  have := td_load (e := 0) (nameO s) v d S (isK_name s) (held_one (held_name s)) (fun w2 K2 S2 => by
    have := qt_find Q h n h0 hn s hs S2
    rwa [hl] at this) (fun _ => hv)
  rwa [if_pos rfl] at this
theorem qt_loadE (Q : List DQ) (h : OKQ Q) (n : Nat) (h0 : 0 < n) (hn : n ≤ Q.length) (s : ByteArray) (hs : s.size ≤ 100) {v d : O} (hl : lookN Q (nameO s) n = (v, d, 9)) (S : TabAt w0 w [(hp, hQ Q)] K cp hp sp (dsQ n) (l ++ [nameO s])) :
    Calls Tryz.prog 44 #[ptr hp, ptr cp, ptr sp, .int .i64 63] w fun r w' => r = .returned (.int .i64 9) ∧ TabAt w0 w' [(hp, hQ Q)] K cp hp sp (dsQ n) (l ++ [nameO s]) := by
  have := td_load (e := 9) (nameO s) v d S (isK_name s) (held_one (held_name s)) (fun w2 K2 S2 => by
    have := qt_find Q h n h0 hn s hs S2
    rwa [hl] at this) (fun h => absurd h (by decide))
  rwa [if_neg (by decide)] at this
theorem qt_where (Q : List DQ) (h : OKQ Q) (n : Nat) (h0 : 0 < n) (hn : n ≤ Q.length) (s : ByteArray) (hs : s.size ≤ 100) {v d : O} (hl : lookN Q (nameO s) n = (v, d, 0)) (hv : mayO d = true) (h2 : l.length + 2 ≤ 200) (S : TabAt w0 w [(hp, hQ Q)] K cp hp sp (dsQ n) (l ++ [nameO s])) :
    Calls Tryz.prog 44 #[ptr hp, ptr cp, ptr sp, .int .i64 67] w fun r w' => r = .returned (.int .i64 0) ∧ TabAt w0 w' [(hp, hQ Q)] K cp hp sp (dsQ n) (l ++ [d, bO true]) :=
  td_where (nameO s) v d S (isK_name s) (held_one (held_name s)) (fun w2 K2 S2 => by
    have := qt_find Q h n h0 hn s hs S2
    rwa [hl] at this) hv h2
theorem qt_known (Q : List DQ) (h : OKQ Q) (ds : List O) (i : Nat) (hi : i < Q.length) (s : ByteArray) (hs : s.size ≤ 100) {v : O} {e : Int} (hg : getQ Q (nameO s) (dcn i) = (v, e)) (S : TabAt w0 w [(hp, hQ Q)] K cp hp sp ds (l ++ [dcn i, nameO s])) :
    Calls Tryz.prog 44 #[ptr hp, ptr cp, ptr sp, .int .i64 65] w fun r w' => r = .returned (.int .i64 0) ∧ TabAt w0 w' [(hp, hQ Q)] K cp hp sp ds (l ++ [bO (decide (e = 0))]) := by
  have he : e = 0 ∨ e = 9 := by
    unfold getQ at hg
    split at hg
    · simp only [Prod.mk.injEq] at hg; exact .inl hg.2.symm
    · simp only [Prod.mk.injEq] at hg; exact .inr hg.2.symm
  obtain ⟨D, -⟩ := q_at Q h i Q[i] (List.getElem?_eq_getElem hi)
  exact td_known (dcn i) (nameO s) v S (isK_dict _) (isK_name s) (held_two (fun _ => D.may) (held_name s)) he (fun w2 K2 S2 => S2.ask (fun K' A => by
    have := q_get Q h A m0 i hi (nameO s) (key_self _ s hs)
    rwa [hg] at this))
theorem qt_begin (Q : List DQ) (h : OKQ Q) (n : Nat) (h0 : 0 < n) (h1 : n < 20) (hn : n < Q.length) (S : TabAt w0 w [(hp, hQ Q)] K cp hp sp (dsQ n) (l ++ [dcn n])) :
    Calls Tryz.prog 44 #[ptr hp, ptr cp, ptr sp, .int .i64 60] w fun r w' => r = .returned (.int .i64 0) ∧ TabAt w0 w' [(hp, hQ Q)] K cp hp sp (dsQ (n + 1)) l := by
  obtain ⟨D, -⟩ := q_at Q h n Q[n] (List.getElem?_eq_getElem hn)
  have := td_begin (e := 0) (L' := hQ Q) (ds' := dsQ (n + 1)) (dcn n) S (isK_dict _) (held_one (fun _ => D.may)) (fun w2 K2 S2 => S2.scp (fun K' S' => q_begin Q h n S' h0 h1 hn))
  rwa [if_pos rfl] at this
theorem qt_end {L : List C} (n : Nat) (h0 : 2 ≤ n) (h1 : n ≤ 100) (S : TabAt w0 w [(hp, L)] K cp hp sp (dsQ (n + 1)) l) :
    Calls Tryz.prog 44 #[ptr hp, ptr cp, ptr sp, .int .i64 61] w fun r w' => r = .returned (.int .i64 0) ∧ TabAt w0 w' [(hp, L)] K cp hp sp (dsQ n) l := by
  have := td_end (e := 0) (L' := L) (ds' := dsQ n) S (fun w2 K2 S2 => S2.scp (fun K' S' => q_end n S' h0 h1))
  rwa [if_pos rfl] at this
theorem qt_endE {L : List C} {ds : List O} (h : ds.length = 2) (S : TabAt w0 w [(hp, L)] K cp hp sp ds l) :
    Calls Tryz.prog 44 #[ptr hp, ptr cp, ptr sp, .int .i64 61] w fun r w' => r = .returned (.int .i64 11) ∧ TabAt w0 w' [(hp, L)] K cp hp sp ds l := by
  have := td_end (e := 11) (L' := L) (ds' := ds) S (fun w2 K2 S2 => S2.scp (fun K' S' => (scp_endE S' h).mono fun _ _ h => ⟨h.1, h.2 ▸ S'⟩))
  rwa [if_neg (by decide)] at this
theorem qt_dict {L L' : List C} {ds : List O} (n : Int) {v : O} (hr : dictH L n = (L', v, 0)) (hv : mayO v = true) (S : TabAt w0 w [(hp, L)] K cp hp sp ds (l ++ [iO n])) :
    Calls Tryz.prog 44 #[ptr hp, ptr cp, ptr sp, .int .i64 59] w fun r w' => r = .returned (.int .i64 0) ∧ TabAt w0 w' [(hp, L')] K cp hp sp ds (l ++ [v]) :=
  td_dict (iO n) v S (isK_int n) (held_one (held_int n)) (fun w2 K2 S2 => S2.ask (fun K' A => at_dnew A n hr)) hv
/-- Store where the key is found in dictionary i, not the lowest. -/
theorem qt_store (Q : List DQ) (h : OKQ Q) (n : Nat) (hn : n < Q.length) (i : Nat) (hi : 0 < i) (ps : List (O × O)) (room : Nat) (hq : Q[i]? = some (ps, room, false)) (hr : ps.length < room) (s : ByteArray) (hs : s.size ≤ 100) (v u : O) (hl : lookN Q (nameO s) (n + 1) = (u, dcn i, 0)) (hv : mayH (hQ Q) v = true) (hk : isK (-1) v.kind = true)
    (S : TabAt w0 w [(hp, hQ Q)] K cp hp sp (dsQ (n + 1)) (l ++ [nameO s, v])) :
    Calls Tryz.prog 44 #[ptr hp, ptr cp, ptr sp, .int .i64 64] w fun r w' => r = .returned (.int .i64 0) ∧ TabAt w0 w' [(hp, hQ (Q.set i (setK ps (nameO s) v, room, false)))] K cp hp sp (dsQ (n + 1)) l := by
  have h2 := h.2
  obtain ⟨D, b1, b2, b3⟩ := q_at Q h i _ hq
  obtain ⟨ds, hds⟩ : ∃ ds, dsQ (n + 1) = dcn 0 :: ds := ⟨(dsQ (n + 1)).tail, by simp [dsQ, List.range_succ_eq_map]⟩
  have hdl : ds.length = n := by
    have := congrArg List.length hds
    simpa [dsQ_length] using this.symm
  have := td_store (e := 0) (L' := hQ (Q.set i (setK ps (nameO s) v, room, false))) (ds' := dsQ (n + 1)) (nameO s) v S (isK_name s) hk (held_two (held_name s) (fun _ => hv)) (fun w2 K2 S2 => S2.scp (fun K' S' => by
    rw [hds] at S' ⊢
    refine scp_store (d := dcn i) (vf := u) S' (by omega) (nameO s) v (by simp; omega) (fun w3 K3 S3 => ?_) (fun w3 K3 A3 => ?_)
    · rw [← hds] at S3 ⊢
      have := q_find Q h (n + 1) S3 (by omega) hn s hs
      rwa [hl] at this
    · rw [hQ_set]
      exact at_dsetK A3 i ps room D hr b2 b3 (nameO s) v (key_self _ s hs) hv (may_name _ s false hs)))
  rwa [if_pos rfl] at this
end
end Go.Proofs.YtpgkjgceldleaaaGreat
