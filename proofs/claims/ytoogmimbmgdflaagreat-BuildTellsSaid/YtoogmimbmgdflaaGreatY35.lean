/- Parts of the proof: Ubk, Ubn, Ubr, Ubl. -/
import Derived.Test.YtoogmimbmgdflaaGreatY21
import Derived.Test.YtoogmimbmgdflaaGreatY34
namespace Go.Proofs.YtoogmimbmgdflaaGreat
open Go.RowKit
variable {w w0 : World} {M : List (Nat × List C)} {K : List (Nat × Obj)} {L : List C} {hp : Nat}
theorem Ats.ofOwnsB {w1 w2 : World} {T : TypeId} {sz : Nat} {v : Value} {n : Nat} {xs : List Value} (A : Ats w0 w1 M K) (X : Chg NoB w1 w2) (own : w2.ownsRow w1.heap.size T sz v n xs) : ∃ R, RowG T sz R v n xs ∧ Ats w0 w2 M (R ++ K) := by
 obtain ⟨hl, ⟨rfl, h0⟩ | ⟨g, cap, cur, rfl, hg0, hg, c1, c2, c3, c4⟩⟩ := own
 · subst h0; exact ⟨[], .inl ⟨rfl, rfl, List.eq_nil_of_length_eq_zero (by simpa using hl), rfl⟩, A.pure X⟩
 · exact ⟨[(g, .cells cur T)], .inr ⟨g, cap, cur, rfl, rfl, c1, c2, c3, c4, hl⟩, A.got X hg hg0⟩
theorem toksG {R : List (Nat × Obj)} {v : Value} {l : List Tok} (h : RowG 41 4 R v l.length (toksV l)) {w0 W : World} {M : List (Nat × List C)} {E K : List (Nat × Obj)} (A : Ats w0 W M (E ++ (R ++ K))) : ToksAt W v l :=
 ToksAt.of_own ((A.perm (K' := R ++ (E ++ K)) (by
  classical refine List.perm_iff_count.2 fun q => ?_
  simp only [List.count_append]
  omega)).ownsG h)
abbrev k22 : ByteArray := ⟨#[123, 49, 32, 97, 100, 100, 125, 32, 47, 98]⟩
abbrev k22s : ByteArray := ⟨#[123, 49, 32, 97, 100, 100, 125]⟩
abbrev bAdd : ByteArray := ⟨#[97, 100, 100]⟩
abbrev k22t : List Tok := [⟨7, 0, ⟨#[]⟩, 0⟩, ⟨1, 1, ⟨#[]⟩, 1⟩, ⟨3, 0, bAdd, 3⟩, ⟨8, 0, ⟨#[]⟩, 6⟩, ⟨4, 0, ⟨#[98]⟩, 8⟩]
theorem k22_lst : k22.toList = [123, 49, 32, 97, 100, 100, 125, 32, 47, 98] := by rw [ByteArray.toList_eq]
theorem k22_all : allF [123, 49, 32, 97, 100, 100, 125, 32, 47, 98] = (0, k22t, 0) := by
 decide +kernel
abbrev nmAdd : O := exeN bAdd
noncomputable abbrev H22 : List C := hQ sysQ ++ [rowC [int1, nmAdd]]
theorem mayO_add : mayO nmAdd = true := by
 simp [mayO, eqO, bareO, O.nil]
 decide
theorem h22_at : H22[2]? = some (rowC [int1, nmAdd]) := by
 rw [List.getElem?_append_right (by rw [sysQ_len8]; exact Nat.le_refl _), sysQ_len8]; rfl
theorem k22_objs : objsB noF (hQ sysQ) k22t = (H22, [arX 2 2, nameB], 0, 0) := by
 have t0 : mayT ⟨7, 0, ⟨#[]⟩, 0⟩ = true := by decide +kernel
 have t1 : mayT ⟨1, 1, ⟨#[]⟩, 1⟩ = true := by decide +kernel
 have t2 : mayT ⟨3, 0, bAdd, 3⟩ = true := by decide +kernel
 have t3 : mayT ⟨8, 0, ⟨#[]⟩, 6⟩ = true := by decide +kernel
 have t4 : mayT ⟨4, 0, ⟨#[98]⟩, 8⟩ = true := by decide +kernel
 have ha := arrB_ok (hQ sysQ) [int1, nmAdd] (by rw [sysQ_len8]; decide) (by rw [sysQ_used8]; decide) (fun x hx => by
  simp only [List.mem_cons, List.not_mem_nil, or_false] at hx
  rcases hx with rfl | rfl
  · exact may_num _ _ (by decide) (by decide)
  · unfold mayH; rw [mayO_add]; rfl)
 rw [sysQ_len8] at ha; unfold objsB; simp only [runO]; rw [step_open t0 (by decide)]; simp only; rw [step_leaf t1 (by decide) (by decide) leaf_1]; simp only; rw [step_leaf t2 (by decide) (by decide) leaf_3]; simp only [List.nil_append, List.cons_append]; rw [step_shut t3 ha]; simp only [putB]; rw [step_leaf t4 (by decide) (by decide) leaf_4]; rfl
theorem s22_i : itemsH H22 (arX 2 2) = ([int1, nmAdd], 0) := items_arX (N := 2) h22_at (by decide) (by decide) _ rfl
abbrev BiS := List C × List O × Int
abbrev partO (a : O) : Int × Int × Int := (a.n, a.pos, a.len)
inductive InnerR (FR : List C → O → O → Int → Prop) (a : O) : Nat → List O → BiS → BiS → Prop
 | nil {i : Nat} {s : BiS} : InnerR FR a i [] s s
 | skip {i : Nat} {x : O} {xs : List O} {s s' : BiS} : x.exec = false → InnerR FR a (i + 1) xs s s' → InnerR FR a i (x :: xs) s s'
 | other {i : Nat} {x : O} {xs : List O} {s s' : BiS} : x.exec = true → x.kind ≠ 9 → x.kind ≠ 5 → InnerR FR a (i + 1) xs s s' → InnerR FR a i (x :: xs) s s'
 | push {i : Nat} {x : O} {xs : List O} {L : List C} {wait : List O} {n : Int} {s' : BiS} : x.exec = true → x.kind = 9 → mayH L x = true → wait.length < 1000 → InnerR FR a (i + 1) xs (L, wait ++ [x], n) s' → InnerR FR a i (x :: xs) (L, wait, n) s'
 | stay {i : Nat} {x v : O} {e : Int} {xs : List O} {L : List C} {wait : List O} {n : Int} {s' : BiS} : x.exec = true → x.kind = 5 → FR L x v e → (e ≠ 0 ∨ v.kind ≠ 7) → InnerR FR a (i + 1) xs (L, wait, n) s' → InnerR FR a i (x :: xs) (L, wait, n) s'
 | bind {i : Nat} {x v : O} {xs : List O} {L L' : List C} {wait : List O} {n : Int} {s' : BiS} : x.exec = true → x.kind = 5 → FR L x v 0 → v.kind = 7 → v.exec = true → setH L a (i : Int) v = (L', 0) → 0 ≤ n → n ≤ 100000 → InnerR FR a (i + 1) xs (L', wait, n + 1) s' → InnerR FR a i (x :: xs) (L, wait, n) s'
inductive OuterR (FR : List C → O → O → Int → Prop) : Nat → List C → List O → List (Int × Int × Int) → Int → List C × Int → Prop
 | done {f : Nat} {L : List C} {seen : List (Int × Int × Int)} {n : Int} : OuterR FR f L [] seen n (L, n)
 | seen {f : Nat} {L : List C} {wait : List O} {a : O} {seen : List (Int × Int × Int)} {n : Int} {r : List C × Int} : PartOk (partO a) → partO a ∈ seen → wait.length ≤ 1000 → OuterR FR f L wait seen n r → OuterR FR (f + 1) L (wait ++ [a]) seen n r
 | fresh {f : Nat} {L L1 : List C} {wait wait1 : List O} {a : O} {seen : List (Int × Int × Int)} {n n1 : Int} {r : List C × Int} {xs : List O} {e : Int} : PartOk (partO a) → partO a ∉ seen → wait.length ≤ 1000 → itemsH L a = (xs, e) → xs.length ≤ 40000 → InnerR FR a 0 xs (L, wait, n) (L1, wait1, n1) → OuterR FR f L1 wait1 (seen ++ [partO a]) n1 r → OuterR FR (f + 1) L (wait ++ [a]) seen n r
theorem InnerR.inv {FR : List C → O → O → Int → Prop} {a x : O} {i : Nat} {xs : List O} {wait : List O} {n : Int} {s' : BiS} (h : InnerR FR a i (x :: xs) (L, wait, n) s') :
 (x.exec = false ∧ InnerR FR a (i + 1) xs (L, wait, n) s') ∨ (x.exec = true ∧ x.kind ≠ 9 ∧ x.kind ≠ 5 ∧ InnerR FR a (i + 1) xs (L, wait, n) s') ∨ (x.exec = true ∧ x.kind = 9 ∧ mayH L x = true ∧ wait.length < 1000 ∧ InnerR FR a (i + 1) xs (L, wait ++ [x], n) s') ∨
  (x.exec = true ∧ x.kind = 5 ∧ ∃ v e, FR L x v e ∧ (e ≠ 0 ∨ v.kind ≠ 7) ∧ InnerR FR a (i + 1) xs (L, wait, n) s') ∨
  (x.exec = true ∧ x.kind = 5 ∧ ∃ v L', FR L x v 0 ∧ v.kind = 7 ∧ v.exec = true ∧ setH L a (i : Int) v = (L', 0) ∧ 0 ≤ n ∧ n ≤ 100000 ∧ InnerR FR a (i + 1) xs (L', wait, n + 1) s') := by
 cases h with
 | skip h1 h2 => exact .inl ⟨h1, h2⟩
 | other h1 h2 h3 h4 => exact .inr (.inl ⟨h1, h2, h3, h4⟩)
 | push h1 h2 h3 h4 h5 => exact .inr (.inr (.inl ⟨h1, h2, h3, h4, h5⟩))
 | stay h1 h2 h3 h4 h5 => exact .inr (.inr (.inr (.inl ⟨h1, h2, _, _, h3, h4, h5⟩)))
 | bind h1 h2 h3 h4 h5 h6 h7 h8 h9 => exact .inr (.inr (.inr (.inr ⟨h1, h2, _, _, h3, h4, h5, h6, h7, h8, h9⟩)))
theorem OuterR.inv {FR : List C → O → O → Int → Prop} {f : Nat} {wait : List O} {seen : List (Int × Int × Int)} {n : Int} {r : List C × Int} (h : OuterR FR f L wait seen n r) :
 (wait = [] ∧ r = (L, n)) ∨ ∃ f' W a, f = f' + 1 ∧ wait = W ++ [a] ∧ W.length ≤ 1000 ∧ PartOk (partO a) ∧ ((partO a ∈ seen ∧ OuterR FR f' L W seen n r) ∨
  (partO a ∉ seen ∧ ∃ xs e L1 wait1 n1, itemsH L a = (xs, e) ∧ xs.length ≤ 40000 ∧ InnerR FR a 0 xs (L, W, n) (L1, wait1, n1) ∧ OuterR FR f' L1 wait1 (seen ++ [partO a]) n1 r)) := by
 cases h with
 | done => exact .inl ⟨rfl, rfl⟩
 | seen h1 h2 h3 h4 => exact .inr ⟨_, _, _, rfl, rfl, h3, h1, .inl ⟨h2, h4⟩⟩
 | fresh h1 h2 h3 h4 h5 h6 h7 => exact .inr ⟨_, _, _, rfl, rfl, h3, h1, .inr ⟨h2, _, _, _, _, _, h4, h5, h6, h7⟩⟩
theorem at_itemsG (A : Ats w0 w M K) (o : O) {l : List O} {e : Int} (hr : itemsH L o = (l, e)) (hm : (hp, L) ∈ M) :
 Calls Tryz.prog 48 #[ptr hp, o.val] w fun r w' => ∃ v R, r = .returned (.tuple #[v, .int .i64 e]) ∧ RowG 39 6 R v l.length (l.flatMap O.cells) ∧ Ats w0 w' M (R ++ K) := by
 obtain ⟨h, rfl, rfl, H⟩ := A.rep hm; refine (items_any h o w H).mono ?_; rintro r w' ⟨v, rfl, X, own⟩; rw [hr] at own ⊢; obtain ⟨R, hR, A'⟩ := A.ofOwnsB X own; exact ⟨v, R, rfl, hR, A'⟩
theorem RowG.trunc {T : TypeId} {sz : Nat} {R : List (Nat × Obj)} {a : Option Addr} {n c : Nat} {xs ys : List Value} (h : RowG T sz R (.slice a (n + 1) c) (n + 1) (xs ++ ys)) (hx : xs.length = n * sz) : RowG T sz R (.slice a n c) n xs := by
 rcases h with ⟨h, -⟩ | ⟨g, cap, cur, hv, rfl, h1, h2, h3, h4, h5⟩
 · simp at h
 · simp only [Value.slice.injEq, true_and] at hv; obtain ⟨rfl, rfl⟩ := hv; refine .inr ⟨g, c, cur, rfl, rfl, by omega, h2, h3, ?_, hx⟩; have := congrArg (List.take (n * sz)) h4; rw [List.take_take, Nat.min_eq_left (Nat.mul_le_mul_right sz (Nat.le_succ n)), List.take_left' hx] at this; exact this
theorem Ats.putM8 {b : Nat} {o : Obj} (A : Ats w0 w M ((b, o) :: K)) (o' : Obj) : Ats w0 { w with heap := w.heap.setIfInBounds b o' } M ((b, o') :: K) := by
 obtain ⟨h, h1, H, X0, D, F, k, n⟩ := A; obtain ⟨kb, kn, kg⟩ := k _ (List.mem_cons_self ..); have hs := MapKept.heap_set (o' := o') kb
 have X : Chg (· = b) w { w with heap := w.heap.setIfInBounds b o' } := ⟨rfl, rfl, rfl, by simp, fun i _ hi => hs.2 i hi⟩
 refine ⟨h, h1, fun x hx => (H x hx).chg X fun c hc e => kn (List.mem_flatMap.2 ⟨x, hx, e ▸ hc⟩), X0.trans' X (fun i hi e => by simp only at e kg; omega), D, F, fun q hq => ?_, n⟩
 rcases List.mem_cons.1 hq with rfl | hq
 · exact ⟨hs.1, kn, kg⟩
 · refine ⟨X.blk (k q (List.mem_cons_of_mem _ hq)).1 fun e => ?_, (k q (List.mem_cons_of_mem _ hq)).2⟩; rw [List.map_cons, List.nodup_cons] at n; exact n.1 (List.mem_map.2 ⟨q, hq, e⟩)
theorem flat_last (wait : List O) (a : O) : (wait ++ [a]).flatMap O.cells = wait.flatMap O.cells ++ a.cells := by simp
set_option maxRecDepth 100000 in
set_option maxHeartbeats 16000000 in
theorem bind_any {cp : Nat} {L0 : List C} (A : Ats w0 w ((hp, L0) :: M) K) (o : O) (hk : o.kind = 9) (hm : mayH L0 o = true) (FR : List C → O → O → Int → Prop)
 (HFI : ∀ L x v e, FR L x v e → ∀ W E, Ats w0 W ((hp, L) :: M) (E ++ K) → Calls Tryz.prog 42 #[ptr cp, x.val] W fun r w' => ∃ d : O, r = .returned (.tuple #[v.val, d.val, .int .i64 e]) ∧ Ats w0 w' ((hp, L) :: M) (E ++ K))
 {f : Nat} {L' : List C} {n' : Int} (hO : OuterR FR f L0 [o] [] 0 (L', n')) :
 Calls Tryz.prog 16 #[ptr hp, ptr cp, o.val] w fun r w' => r = .returned (.tuple #[.int .i64 n', .int .i64 0]) ∧ Ats w0 w' ((hp, L') :: M) K := by
 have HFI := hid' HFI; have HMO := hid' (fun W K' (A : Ats w0 W ((hp, L0) :: M) K') => at_may A o hm m0); have HO := hid' hO; obtain ⟨ok, ox, on, op, ol, os⟩ := o; simp only at hk; subst hk; have A1 := A.alloc (Obj.cells #[.int .i64 9, .bool ox, .int .i64 on, .int .i64 op, .int .i64 ol, .string os] 39); have hMM := run_mmP; obtain ⟨i0, hi, hz0, hz1, hz2⟩ := info_parts Tryz.infoObj; clear hm hO; go_enter Tryz.func16, Tryz.ntmps16
 go_upto_region 1 with (fail)
 generalize hg : w.heap.size = b5 at *; generalize hW : w.alloc _ = w1 at *; clear hW hg A
 (try clear Ro); (try clear yo); (try clear Zo)
 have Ro := cells_of (A1.box _ m0); have yo := blk_lt (A1.box _ m0)
 (try simp only at Ro yo)
 go_wp2_with fail
 refine (HMO.out _ _ A1).mono ?_; rintro r w2 ⟨rfl, A2⟩; clear Ro yo HMO A1; have A3 := A2.alloc (.map #[] 0); generalize hg : w2.heap.size = mp at *
 go_upto_region 8 with (fail)
 generalize hW : w2.alloc _ = w3 at *; clear hW hg A2
 (try clear Ro); (try clear yo); (try clear Zo)
 have Ro := cells_of (A3.box _ m1); have yo := blk_lt (A3.box _ m1)
 (try simp only at Ro yo)
 have A4 := A3.alloc (Obj.cells #[.int .i64 9, .bool ox, .int .i64 on, .int .i64 op, .int .i64 ol, .string os] 39); generalize hg : w3.heap.size = g0 at *
 go_upto_region 9 with (fail)
 generalize hW : w3.alloc _ = w4 at *; clear hW hg A3 Ro yo hMM; have A5 : Ats w0 w4 ((hp, L0) :: M) ([(g0, Obj.cells #[.int .i64 9, .bool ox, .int .i64 on, .int .i64 op, .int .i64 ol, .string os] 39)] ++ ((mp, .map #[] 0) :: K)) := A4.keep (List.Sublist.cons_cons _ (List.Sublist.cons_cons _ (List.sublist_cons_self _ _))); clear A4; go_wp2_with fail
 have HOO := HO.out; clear HO
 have M0 : MapP #[] [] := ⟨rfl, by simp⟩
 go_loopg [9, 6] f (fun f vw nv wr => ∃ (L : List C) (wait : List O) (seen : List (Int × Int × Int)) (n : Int) (R : List (Nat × Obj)) (es : Array MapEntry) (c : Nat), OuterR FR f L wait seen n (L', n') ∧ nv = .int .i64 n ∧ RowG 39 6 R vw wait.length (wait.flatMap O.cells) ∧ MapP es seen ∧ Ats w0 wr ((hp, L) :: M) (R ++ ((mp, .map es c) :: K)))
 case atStart => exact ⟨L0, _, [], 0, [(g0, Obj.cells #[.int .i64 9, .bool ox, .int .i64 on, .int .i64 op, .int .i64 ol, .string os] 39)], #[], 0, HOO, rfl, .inr ⟨g0, 1, _, rfl, rfl, Nat.le_refl 1, by decide, rfl, rfl, rfl⟩, M0, A5⟩
 case round =>
 obtain ⟨L, wait, seen, n, R, es, c, hO, rfl, hR, hM, A6⟩ := hrel; clear HOO M0 A5
 rcases hO.inv with ⟨rfl, hr⟩ | ⟨f', W, a, rfl, rfl, hw9, hpo, hcase⟩
 · simp only [Prod.mk.injEq] at hr; obtain ⟨rfl, rfl⟩ := hr; obtain ⟨aw, cw, rfl, hcw⟩ := rowG_slice hR; have A7 := A6.keep ((List.sublist_cons_self _ _).trans (List.sublist_append_right R _)); clear A6 hR hcw hM hO; simp only [List.length_nil]; go_wp2_with fail
   go_ret2
   exact ⟨rfl, A7⟩
 · obtain ⟨m, hm⟩ : ∃ m, W.length = m := ⟨_, rfl⟩
   rw [List.length_append, hm, List.length_singleton, flat_last] at hR
   have hxl : (W.flatMap O.cells).length = m * 6 := by rw [flat_length O.cells 6 cells_length, hm]
   have hcl : ∃ gw cw curw, u9 = .slice (some ⟨gw, 0, none⟩) (m + 1) cw ∧ R = [(gw, .cells curw 39)] ∧ m + 1 ≤ cw ∧ ∀ j, j < 6 → curw[m * 6 + j]? = a.cells[j]? := by
    rcases hR with ⟨-, h0, -⟩ | ⟨gw, cw, curw, e1, e2, w1', w2', w3', w4', w5'⟩
    · omega
    · refine ⟨gw, cw, curw, e1, e2, w1', fun j hj => ?_⟩; have h := congrArg (fun z => z[m * 6 + j]?) w4'; simp only [List.getElem?_take_of_lt (show m * 6 + j < (m + 1) * 6 by omega), Array.getElem?_toList] at h; rw [h, List.getElem?_append_right (by omega), hxl]
      congr 1
      omega
   obtain ⟨gw, cw, curw, rfl, rfl, hmc, hcl⟩ := hcl; have HRT := hid' (hR.trunc hxl); have q0 := hcl 0 (by decide); have q1 := hcl 1 (by decide); have q2 := hcl 2 (by decide); have q3 := hcl 3 (by decide); have q4 := hcl 4 (by decide); have q5 := hcl 5 (by decide); obtain ⟨bk, bx, bn, bp, bl, bs⟩ := a; simp only [O.cells, List.getElem?_cons_zero, List.getElem?_cons_succ, Nat.add_zero] at q0 q1 q2 q3 q4 q5
   obtain ⟨p, hp⟩ : ∃ p, m + 1 = p := ⟨_, rfl⟩
   rw [hp] at hmc hR; rw [hp]; have HM9 := hid' hm
   have hpi : (p : Int) - 1 = m := by omega
   have p0 : (0 : Int) < p := by omega
   have mp_ : (m : Int) < p := by omega
   have m0' : (0 : Int) ≤ m := by omega
   have mc : (m : Int) ≤ cw := by omega
   have vm := IntWalk.i64_in (m : Int) (by omega); have Rg := cells_of (A6.box (gw, .cells curw 39) (by simp)); have yg := blk_lt (A6.box (gw, .cells curw 39) (by simp)); simp only at Rg yg; have HP9 := hid' hp; clear hcl hR hxl hm hp hO
   go_upto_region 11 with (fail)
   have A7 := A6.alloc (Obj.cells #[.int .i64 bk, .bool bx, .int .i64 bn, .int .i64 bp, .int .i64 bl, .string bs] 39); generalize hg : wr.heap.size = b10 at *; generalize hW : wr.alloc _ = w5 at *; clear hW hg A6 Rg yg q0 q1 q2 q3 q4 q5; have hbm := A7.box (mp, .map es c) (by simp)
   (try clear Rx); (try clear yx); (try clear Zx)
   have Rx := cells_of (A7.box _ m0); have yx := blk_lt (A7.box _ m0)
   (try simp only at Rx yx)
   rcases hcase with ⟨hmem, hnext⟩ | ⟨hnm, xs, e, L1, wait1, n1, hit, hx9, hin, hnext⟩
   · have HLK := run_lookP hbm hM hpo true (decide_eq_true hmem).symm; simp only [partV] at HLK; clear hbm; go_wp2_with fail
     go_roundg f'
     case measure => omega
     case rel => exact ⟨L, W, seen, n, [(gw, .cells curw 39)], es, c, hnext, rfl, by rw [HM9.out]; exact HRT.out, hM, A7.keep (List.sublist_cons_self _ _)⟩
   · have HLK := run_lookP hbm hM hpo false (decide_eq_false hnm).symm; simp only [partV] at HLK
     go_upto_region 13 with (fail)
     clear HLK; obtain ⟨es', c', HU, hM'⟩ := run_updP hbm hM hpo hnm; simp only [partV] at HU
     have A8 := ((A7.perm (K' := (mp, .map es c) :: (b10, Obj.cells #[.int .i64 bk, .bool bx, .int .i64 bn, .int .i64 bp, .int .i64 bl, .string bs] 39) :: (gw, .cells curw 39) :: K) (by
      classical refine List.perm_iff_count.2 fun z => ?_
      simp only [List.count_append, List.count_cons, List.count_nil]
      omega)).putM8 (.map es' c')).perm (K' := (b10, Obj.cells #[.int .i64 bk, .bool bx, .int .i64 bn, .int .i64 bp, .int .i64 bl, .string bs] 39) :: ([(gw, .cells curw 39)] ++ ((mp, .map es' c') :: K))) (by
      classical refine List.perm_iff_count.2 fun z => ?_
      simp only [List.count_append, List.count_cons, List.count_nil]
      omega)
     go_upto_region 14 with (fail)
     generalize hW : ({ w5 with heap := w5.heap.setIfInBounds mp (.map es' c') } : World) = w6 at *; clear hW HU A7 Rx yx hbm hM
     (try clear Rx); (try clear yx); (try clear Zx)
     have Rx := cells_of (A8.box _ m0); have yx := blk_lt (A8.box _ m0)
     (try simp only at Rx yx)
     have HIT := hid' (at_itemsG A8 ⟨bk, bx, bn, bp, bl, bs⟩ hit m0); clear A8; go_wp2_with fail
     refine HIT.out.mono ?_; rintro r w7 ⟨vx, RX, rfl, hRX, A9⟩; clear HIT Rx yx
     obtain ⟨q, hq⟩ : ∃ q, xs.length = q := ⟨_, rfl⟩
     rw [hq] at hRX hx9; obtain ⟨aX, cX, rfl, hqc⟩ := rowG_slice hRX
     have HXC := hid' (fun (i : Nat) (x : O) (hx : xs[i]? = some x) => (show ∃ gX curX, aX = some ⟨gX, 0, none⟩ ∧ (gX, Obj.cells curX 39) ∈ RX ∧ ∀ j, j < 6 → curX[i * 6 + j]? = x.cells[j]? by
      have hi : i < xs.length := (List.getElem?_eq_some_iff.1 hx).1; obtain ⟨gX, cX', curX, e1, e2, e3⟩ := hRX.shape (by omega); simp only [Value.slice.injEq, true_and] at e1; refine ⟨gX, curX, e1.1, by rw [e2]; exact m0, fun j hj => ?_⟩; rw [e3 _ (by omega)]
      exact flatB_at xs i j x hx hj))
     have HQ9 := hid' hq
     obtain ⟨KX, hKX⟩ : ∃ KX, KX = RX ++ ((b10, Obj.cells #[.int .i64 bk, .bool bx, .int .i64 bn, .int .i64 bp, .int .i64 bl, .string bs] 39) :: (mp, Obj.map es' c') :: K) := ⟨_, rfl⟩
     have A10 : Ats w0 w7 ((hp, L) :: M) ([(gw, .cells curw 39)] ++ KX) := A9.perm (by
      rw [hKX]
      classical refine List.perm_iff_count.2 fun z => ?_
      simp only [List.count_append, List.count_cons, List.count_nil]
      omega)
     have mb : ∀ E, (b10, Obj.cells #[.int .i64 bk, .bool bx, .int .i64 bn, .int .i64 bp, .int .i64 bl, .string bs] 39) ∈ E ++ KX := fun E => by rw [hKX]; simp
     have mX : ∀ E q, q ∈ RX → q ∈ E ++ KX := fun E q hq => by rw [hKX]; simp [hq]
     have HKX := hid' hKX
     have hqi : (q : Int) ≤ 40000 := by omega
     have hqci : (q : Int) ≤ cX := by omega
     have HRW := HRT.out; rw [← HM9.out] at HRW; have HM9' := hid' hM'; rw [HM9.out] at HRW; clear A9 hRX hq hKX hit hx9 hqc HRT hM'; go_wp2_with fail
     go_loopw [76, 9, 6] (fun iv vw nv wr => ∃ (i : Nat) (Lc : List C) (wc : List O) (nc : Int) (R : List (Nat × Obj)), i ≤ q ∧ iv = .int .i64 i ∧ nv = .int .i64 nc ∧ InnerR FR ⟨bk, bx, bn, bp, bl, bs⟩ i (xs.drop i) (Lc, wc, nc) (L1, wait1, n1) ∧ RowG 39 6 R vw wc.length (wc.flatMap O.cells) ∧ Ats w0 wr ((hp, Lc) :: M) (R ++ KX)) (fun iv _ _ _ => q - (intOf iv).toNat)
     case atStart => exact ⟨0, L, W, n, _, Nat.zero_le _, rfl, rfl, hin, by rw [HM9.out]; exact HRW, A10⟩
     case round =>
     obtain ⟨i, Lc, wc, nc, R, hiq, rfl, rfl, hI, hRc, A11⟩ := hrel; obtain ⟨aw, cw2, rfl, -⟩ := rowG_slice hRc; clear A10 HRW hin
     by_cases hlt : i < q
     · have dl : (i : Int) < q := by omega
       have di : (0 : Int) ≤ i := by omega
       have vi := IntWalk.i64_in ((i : Int) + 1) (by omega)
       obtain ⟨x, hx⟩ : ∃ x, xs[i]? = some x := ⟨_, List.getElem?_eq_getElem (by rw [HQ9.out]; exact hlt)⟩
       have hdr : xs.drop i = x :: xs.drop (i + 1) := by
        obtain ⟨h, e⟩ := List.getElem?_eq_some_iff.1 hx; rw [List.drop_eq_getElem_cons h, e]
       rw [hdr] at hI; obtain ⟨gX, curX, rfl, hgX, hcX⟩ := HXC.out i x hx; have q0 := hcX 0 (by decide); have q1 := hcX 1 (by decide); have q2 := hcX 2 (by decide); have q3 := hcX 3 (by decide); have q4 := hcX 4 (by decide); have q5 := hcX 5 (by decide); obtain ⟨xk, xx, xn, xp, xl, xs'⟩ := x; simp only [O.cells, List.getElem?_cons_zero, List.getElem?_cons_succ, Nat.add_zero] at q0 q1 q2 q3 q4 q5; have hI' := hI.inv; simp only at hI'; have Rg := cells_of (A11.box _ (mX R _ hgX)); have yg := blk_lt (A11.box _ (mX R _ hgX)); simp only at Rg yg; clear hcX hdr hx hI
       go_upto_region 18 with (fail)
       have A12 := A11.alloc (Obj.cells #[.int .i64 xk, .bool xx, .int .i64 xn, .int .i64 xp, .int .i64 xl, .string xs'] 39); generalize hg : wr.heap.size = b14 at *; generalize hW : wr.alloc _ = w8 at *; clear hW hg A11 Rg yg q0 q1 q2 q3 q4 q5 hgX
       (try clear Rx); (try clear yx); (try clear Zx)
       have Rx := cells_of (A12.box _ m0); have yx := blk_lt (A12.box _ m0)
       (try simp only at Rx yx)
       rcases hI' with ⟨rfl, hnx⟩ | ⟨rfl, hk9, hk5, hnx⟩ | ⟨rfl, rfl, hmx, hw9', hnx⟩ | ⟨rfl, rfl, v, e', hFR, hne, hnx⟩ | ⟨rfl, rfl, v, L2, hFR, hv7, hvx, hset, hn0, hn9, hnx⟩
       · have A13 := A12.keep (List.sublist_cons_self _ _); clear A12; go_wp2_with fail
         go_roundw
         case rel => exact ⟨i + 1, Lc, wc, nc, R, by omega, by go_num, rfl, hnx, hRc, A13⟩
         case measure => simp [intOf]; omega
       · have A13 := A12.keep (List.sublist_cons_self _ _); clear A12; go_wp2_with fail
         go_roundw
         case rel => exact ⟨i + 1, Lc, wc, nc, R, by omega, by go_num, rfl, hnx, hRc, A13⟩
         case measure => simp [intOf]; omega
       · have HMY := hid' (fun W K' (A : Ats w0 W ((hp, Lc) :: M) K') => at_may A ⟨9, true, xn, xp, xl, xs'⟩ hmx m0); go_wp2_with fail
         refine (HMY.out _ _ A12).mono ?_; rintro r w9 ⟨rfl, A13⟩; clear A12 HMY Rx yx
         (try clear Rx); (try clear yx); (try clear Zx)
         have Rx := cells_of (A13.box _ m0); have yx := blk_lt (A13.box _ m0)
         (try simp only at Rx yx)
         have A14 := A13.keep (List.sublist_cons_self _ _); have HS := hid' A13.chg.size; clear A13
         go_wp2_with (at_builtin; refine wpList_append_own_at _ rfl (.tmp 94) (.tmp 96) 42 rfl w0.heap.size 39 i0 O.nil.val 6 56 Tryz.underObjs hi hz0 hz1 hz2 rfl (by decide) (.slice aw wc.length cw2) wc.length (wc.flatMap O.cells) rfl (Ats.ownsG (A14.pure ((Chg.refl NoB w9).alloc _)) hRc) _ 1 1 (O.cells ⟨9, true, xn, xp, xl, xs'⟩) rfl rfl (newsB_all (T := 39) (fz := (0, 0)) (blk_new w9 _)) (one6 _) ?_ ?_ ?_ ?_; (unfold maxLen; omega); omega; (simp; have := HS.out; omega); intro v5 w5 hown5 hgr5 _ hob5; have HG := hid' (Ats.grownG (A14.pure ((Chg.refl NoB w9).alloc _)) hRc hown5 hgr5 hob5 (by decide)); clear hown5 hgr5 hob5)
         obtain ⟨R', hR', A15⟩ := HG.out; clear HG A14 HS; go_roundw
         case rel => exact ⟨i + 1, Lc, _, nc, R', by omega, by go_num, rfl, hnx, by rw [flat_last, List.length_append, List.length_singleton]; exact hR', A15⟩
         case measure => simp [intOf]; omega
       · have A13 : Ats w0 w8 ((hp, Lc) :: M) (((b14, Obj.cells #[.int .i64 5, .bool true, .int .i64 xn, .int .i64 xp, .int .i64 xl, .string xs'] 39) :: (R ++ (RX ++ [(b10, Obj.cells #[.int .i64 bk, .bool bx, .int .i64 bn, .int .i64 bp, .int .i64 bl, .string bs] 39), (mp, Obj.map es' c')]))) ++ K) := by
          rw [HKX.out] at A12
          simpa using A12
         have HFN := hid' (HFI.out _ _ _ _ hFR w8 _ A13); clear A12 A13; go_wp2_with fail
         refine HFN.out.mono ?_; rintro r w9 ⟨d, rfl, A13⟩
         have A14 : Ats w0 w9 ((hp, Lc) :: M) (R ++ KX) := by
          rw [HKX.out]; refine A13.keep ?_; simp
         obtain ⟨vk, vx, vn, vp, vl, vs⟩ := v; obtain ⟨dk, dx, dn, dp, dl, dS⟩ := d; clear HFN A13 Rx yx
         go_upto_region 23 with (fail)
         have A15 := (A14.alloc (Obj.cells #[.int .i64 vk, .bool vx, .int .i64 vn, .int .i64 vp, .int .i64 vl, .string vs] 39)).alloc (Obj.cells #[.int .i64 dk, .bool dx, .int .i64 dn, .int .i64 dp, .int .i64 dl, .string dS] 39); rw [World.size_alloc] at A15; generalize hg : w9.heap.size = b15 at *; generalize hW : (w9.alloc _).alloc _ = w10 at *; clear hW hg A14
         (try clear Rv); (try clear yv); (try clear Zv)
         have Rv := cells_of (A15.box _ m1); have yv := blk_lt (A15.box _ m1)
         (try simp only at Rv yv)
         have A16 := A15.keep (K' := R ++ KX) ((List.sublist_cons_self _ _).trans (List.sublist_cons_self _ _)); clear A15
         by_cases he : e' = 0
         · have hv7 : ¬ vk = 7 := by
            rcases hne with h | h
            · exact absurd he h
            · exact h
           subst he; go_wp2_with fail
           go_roundw
           case rel => exact ⟨i + 1, Lc, wc, nc, R, by omega, by go_num, rfl, hnx, hRc, A16⟩
           case measure => simp [intOf]; omega
         · go_wp2_with fail
           go_roundw
           case rel => exact ⟨i + 1, Lc, wc, nc, R, by omega, by go_num, rfl, hnx, hRc, A16⟩
           case measure => simp [intOf]; omega
       · have A13 : Ats w0 w8 ((hp, Lc) :: M) (((b14, Obj.cells #[.int .i64 5, .bool true, .int .i64 xn, .int .i64 xp, .int .i64 xl, .string xs'] 39) :: (R ++ (RX ++ [(b10, Obj.cells #[.int .i64 bk, .bool bx, .int .i64 bn, .int .i64 bp, .int .i64 bl, .string bs] 39), (mp, Obj.map es' c')]))) ++ K) := by
          rw [HKX.out] at A12
          simpa using A12
         have HFN := hid' (HFI.out _ _ _ _ hFR w8 _ A13); clear A12 A13; go_wp2_with fail
         refine HFN.out.mono ?_; rintro r w9 ⟨d, rfl, A13⟩
         have A14 : Ats w0 w9 ((hp, Lc) :: M) (R ++ KX) := by
          rw [HKX.out]; refine A13.keep ?_; simp
         obtain ⟨vk, vx, vn, vp, vl, vs⟩ := v; simp only at hv7 hvx; subst hv7 hvx; obtain ⟨dk, dx, dn, dp, dl, dS⟩ := d; clear HFN A13 Rx yx
         go_upto_region 23 with (fail)
         have A15 := (A14.alloc (Obj.cells #[.int .i64 7, .bool true, .int .i64 vn, .int .i64 vp, .int .i64 vl, .string vs] 39)).alloc (Obj.cells #[.int .i64 dk, .bool dx, .int .i64 dn, .int .i64 dp, .int .i64 dl, .string dS] 39); rw [World.size_alloc] at A15; generalize hg : w9.heap.size = b15 at *; generalize hW : (w9.alloc _).alloc _ = w10 at *; clear hW hg A14
         (try clear Rv); (try clear yv); (try clear Zv)
         have Rv := cells_of (A15.box _ m1); have yv := blk_lt (A15.box _ m1)
         (try clear Rb); (try clear yb); (try clear Zb)
         have Rb := cells_of (A15.box _ (List.mem_cons_of_mem _ (List.mem_cons_of_mem _ (mb R)))); have yb := blk_lt (A15.box _ (List.mem_cons_of_mem _ (List.mem_cons_of_mem _ (mb R))))
         (try simp only at Rv yv Rb yb)
         have HST := hid' (at_set A15 ⟨bk, bx, bn, bp, bl, bs⟩ (i : Int) ⟨7, true, vn, vp, vl, vs⟩ hset); have vn1 := IntWalk.i64_in (nc + 1) (by omega); clear A15; go_wp2_with fail
         refine HST.out.mono ?_; rintro r w11 ⟨rfl, A16⟩; clear HST Rv yv Rb yb; have A17 := A16.keep (K' := R ++ KX) ((List.sublist_cons_self _ _).trans (List.sublist_cons_self _ _)); clear A16; go_wp2_with fail
         go_roundw
         case rel => exact ⟨i + 1, L2, wc, nc + 1, R, by omega, by go_num, by go_num, hnx, hRc, A17⟩
         case measure => simp [intOf]; omega
     · obtain rfl : i = q := by omega
       rw [List.drop_of_length_le (Nat.le_of_eq HQ9.out)] at hI
       cases hI
       have A12 := A11.keep (K' := R ++ ((mp, Obj.map es' c') :: K)) (by
        rw [HKX.out]
        exact List.Sublist.append_left ((List.sublist_cons_self _ _).trans (List.sublist_append_right _ _)) R)
       clear A11; go_wp2_with fail
       go_roundg f'
       case measure => omega
       case rel => exact ⟨L1, wait1, _, n1, R, es', c', hnext, rfl, hRc, HM9'.out, A12⟩
noncomputable def bQ (out : ByteArray) : List DQ := [(sysK 162, 162, true), ([(nameO out, nullO)], 200, false)]
theorem DicAt.app {N : Nat} {c : C} (D : DicAt L N c) (X : List C) : DicAt (L ++ X) N c :=
 ⟨by rw [List.getElem?_append_left D.lt]; exact D.cell, D.text, D.dict, D.free, D.room, D.place⟩
noncomputable def LB (out : ByteArray) (us bs : List O) : List C := hQ (bQ out) ++ [rowC us, rowC bs]
theorem set_aX {N : Nat} {is : List O} (hc : L[N]? = some (rowC is)) (hN : N ≤ 40000) (hs : is.length ≤ 40000) (z : Int) (hz : z = is.length) (i : Nat) (hi : i < is.length) (x : O) (hx : mayH L x = true) : setH L (arX N z) i x = (L.set N (rowC (is.set i x)), 0) := by
 unfold setH
 have hf : findE L (arX N z) = 0 := by simp [findE, may_arX hc hN hs z hz, held]
 rw [hf]; simp only [ne_eq, not_true_eq_false, if_false, Int.toNat_natCast, hc, lenOf, atOf]
 have e9 : (9 : Int) = 10 ↔ False := by decide
 simp only [e9, if_false, if_neg (show ¬ ((i : Int) < 0 ∨ z ≤ i) by omega), Bool.false_eq_true, hx, Int.zero_add, Int.toNat_natCast]; simp
theorem set_mid {α : Type} (pre post : List α) (x y : α) : (pre ++ x :: post).set pre.length y = pre ++ y :: post := by
 rw [List.set_append_right _ _ (Nat.le_refl _), Nat.sub_self]; rfl
theorem wf_small (n : Int) (h0 : 0 ≤ n) (h1 : n ≤ 40000) : (Lit.int .i64 n).wf = true := by
 have e1 : IntKind.i64.min = -9223372036854775808 := by decide
 have e2 : IntKind.i64.max = 9223372036854775807 := by decide
 simp only [Lit.wf, Bool.and_eq_true, decide_eq_true_eq, e1, e2]; omega
theorem no5 {toks : List Tok} (h : ∀ t ∈ toks, t.kind ≠ 5) {w0 : World} {M : List (Nat × List C)} {K : List (Nat × Obj)} {hp cp : Nat} {L0 : List C} : ∀ i L ls bg t, runO noF 0 (toks.take i) (L0, [[]], []) = .inl (L, ls, bg) → toks[i]? = some t → t.kind = 5 → mayT t = true → ∀ W E, Ats w0 W ((hp, L) :: M) (E ++ K) →
 Calls Tryz.prog 42 #[ptr cp, (exeN t.s).val] W fun r w' => ∃ d, r = .returned (.tuple #[(noF L t.s).1.val, d, .int .i64 (noF L t.s).2]) ∧ Ats w0 w' ((hp, L) :: M) (E ++ K) :=
 fun _i _L _ls _bg t _ ht h5 => absurd h5 (h t (List.mem_of_getElem? ht))
theorem k22_ok : ∀ t ∈ k22t, TokB t := by
 intro t ht; simp only [k22t, List.mem_cons, List.not_mem_nil, or_false] at ht
 rcases ht with rfl | rfl | rfl | rfl | rfl <;> exact ⟨by decide, by decide, by decide⟩
theorem k22_no5 : ∀ t ∈ k22t, t.kind ≠ 5 := by
 intro t ht; simp only [k22t, List.mem_cons, List.not_mem_nil, or_false] at ht
 rcases ht with rfl | rfl | rfl | rfl | rfl <;> decide
theorem new22 (A : Ats w0 w ((hp, []) :: M) K) :
 Calls Tryz.prog 6 #[ptr hp] w fun e w' => ∃ cp, e = .returned (.tuple #[ptr cp, .int .i64 0]) ∧ Ats w0 w' ((hp, hQ sysQ) :: M) K := by
 refine (q_new A).mono ?_; rintro e w' ⟨cp, rfl, g, cap, cur, -, -, -, -, A1⟩; exact ⟨cp, rfl, A1.keep ((List.sublist_cons_self _ _).trans (List.sublist_cons_self _ _))⟩
end Go.Proofs.YtoogmimbmgdflaaGreat
