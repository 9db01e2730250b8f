/- Parts of the proof: Sco, Scd. -/
import Derived.RangeFuncBound
import Derived.RangeFuncLeaves
import Derived.Shelf.Abstract
import Derived.Shelf.RegionOpen
import Derived.TacticsInMore
import Derived.LoopNIn
import Derived.LoopIn
import Derived.Test.YtpiomapnmempoaaGreatY10
import Derived.Test.YtpiomapnmempoaaGreatY11
namespace Go.Proofs.YtpiomapnmempoaaGreat
open Go.RowKit
variable {w w0 : World} {M : List (Nat × List C)} {K : List (Nat × Obj)}
abbrev scpBox (hp g n cap : Nat) : Obj := .cells #[ptr hp, .slice (some ⟨g, 0, none⟩) n cap] 91
def ScpAt (w0 w : World) (M : List (Nat × List C)) (K : List (Nat × Obj)) (sp hp : Nat) (ds : List O) : Prop :=
 ∃ g cap cur, ds.length ≤ cap ∧ cap ≤ maxLen ∧ cur.size = cap * 6 ∧ cur.toList.take (ds.length * 6) = ds.flatMap O.cells ∧ Ats w0 w M ((g, .cells cur 49) :: (sp, scpBox hp g ds.length cap) :: K)
theorem HeapS.cellsOf {hp g : Nat} {cs : Array Value} {T : TypeId} {fz : Nat × Nat} (h : (g, Obj.cells cs T fz) ∈ K) : ∀ W, HeapS w0 M K hp W → ∀ i, W.cell? ⟨g, i, none⟩ = cs[i]? := by
 rintro W ⟨L, A⟩ i; exact cells_of (A.box _ h) i
theorem one6 (x : O) : ∀ u ∈ x.cells, u.oneCell' = true := by
 intro u hu; simp only [O.cells, List.mem_cons, List.not_mem_nil, or_false] at hu
 rcases hu with rfl | rfl | rfl | rfl | rfl | rfl <;> rfl
theorem last_cells (ds : List O) (d : O) (n _cap : Nat) (cur : Array Value) (hn : ds.length = n) (h4 : cur.toList.take ((n + 1) * 6) = (ds ++ [d]).flatMap O.cells) (j : Nat) (hj : j < 6) : cur[n * 6 + j]? = d.cells[j]? := by
 have h : (cur.toList.take ((n + 1) * 6))[n * 6 + j]? = cur.toList[n * 6 + j]? := List.getElem?_take_of_lt (by rw [Nat.succ_mul]; omega); rw [← Array.getElem?_toList, ← h, h4, flat_get O.cells 6 cells_length j hj, List.getElem?_append_right (by omega), hn, Nat.sub_self]; rfl
set_option maxRecDepth 100000 in
set_option maxHeartbeats 2000000 in
theorem scp_def {sp hp : Nat} {ds : List O} {d : O} {L L' : List C} {e : Int} (S : ScpAt w0 w ((hp, L) :: M) K sp hp (ds ++ [d])) (hl : ds.length ≤ 1000) (k v : O)
 (HS : ∀ w2 K2, Ats w0 w2 ((hp, L) :: M) K2 → Calls Tryz.prog 38 #[ptr hp, d.val, k.val, v.val] w2 fun x w' => x = .returned (.int .i64 e) ∧ Ats w0 w' ((hp, L') :: M) K2) :
 Calls Tryz.prog 225 #[ptr sp, k.val, v.val] w fun x w' => x = .returned (.int .i64 e) ∧ ScpAt w0 w' ((hp, L') :: M) K sp hp (ds ++ [d]) := by
 obtain ⟨n, hn⟩ : ∃ n, ds.length = n := ⟨_, rfl⟩
 obtain ⟨g, cap, cur, h1, h2, h3, h4, A⟩ := S
 have hnn : (ds ++ [d]).length = n + 1 := by simp [hn]
 rw [hnn] at h1 h4 A; have q := last_cells ds d n cap cur hn h4; have q0 := q 0 (by decide); have q1 := q 1 (by decide); have q2 := q 2 (by decide); have q3 := q 3 (by decide); have q4 := q 4 (by decide); have q5 := q 5 (by decide); clear q; have HB := hid' (fun w' (A' : Ats w0 w' ((hp, L') :: M) ((g, .cells cur 49) :: (sp, scpBox hp g (n + 1) cap) :: K)) => (⟨g, cap, cur, by rw [hnn]; exact h1, h2, h3, by rw [hnn]; exact h4, by rw [hnn]; exact A'⟩ : ScpAt w0 w' ((hp, L') :: M) K sp hp (ds ++ [d])))
 have hn2 : (n : Int) ≤ 1000 := by omega
 have hnc : (n : Int) < cap := by omega
 have h0n : (0 : Int) ≤ n := by omega
 have hnl : (n : Int) < (n : Int) + 1 := by omega
 have hwn : IntKind.i64.wrap (n : Int) = n := IntWalk.i64_in _ (by omega)
 have hidx : n * 6 + 6 ≤ cur.size := by rw [h3]; have := Nat.mul_le_mul_right 6 h1; rw [Nat.succ_mul] at this; exact this
 clear h2 h3 h4 hn hl hnn; obtain ⟨dk, dx, dn, dp, dl, dS⟩ := d; obtain ⟨kk, kx, kn, kp, kl, ks⟩ := k; obtain ⟨vk, vx, vn, vp, vl, vs⟩ := v; simp only [O.cells, List.getElem?_cons_zero, List.getElem?_cons_succ, Nat.add_zero] at q0 q1 q2 q3 q4 q5; have A1 := (A.alloc (.cells #[.int .i64 kk, .bool kx, .int .i64 kn, .int .i64 kp, .int .i64 kl, .string ks] 49)).alloc (.cells #[.int .i64 vk, .bool vx, .int .i64 vn, .int .i64 vp, .int .i64 vl, .string vs] 49); simp only [World.size_alloc] at A1; have R1 := HeapS.cellsOf (w0 := w0) (M := M) (hp := hp) (List.mem_cons_self (a := (w.heap.size + 1, Obj.cells #[.int .i64 vk, .bool vx, .int .i64 vn, .int .i64 vp, .int .i64 vl, .string vs] 49)) (l := (w.heap.size, Obj.cells #[.int .i64 kk, .bool kx, .int .i64 kn, .int .i64 kp, .int .i64 kl, .string ks] 49) :: (g, .cells cur 49) :: (sp, scpBox hp g (n + 1) cap) :: K)); have R2 := HeapS.cellsOf (w0 := w0) (M := M) (hp := hp) (m1 (a := (w.heap.size, Obj.cells #[.int .i64 kk, .bool kx, .int .i64 kn, .int .i64 kp, .int .i64 kl, .string ks] 49)) (b := (w.heap.size + 1, Obj.cells #[.int .i64 vk, .bool vx, .int .i64 vn, .int .i64 vp, .int .i64 vl, .string vs] 49)) (l := (g, .cells cur 49) :: (sp, scpBox hp g (n + 1) cap) :: K)); have R3 := HeapS.cellsOf (w0 := w0) (M := M) (hp := hp) (m2 (a := (g, .cells cur 49)) (b := (w.heap.size + 1, Obj.cells #[.int .i64 vk, .bool vx, .int .i64 vn, .int .i64 vp, .int .i64 vl, .string vs] 49)) (c := (w.heap.size, Obj.cells #[.int .i64 kk, .bool kx, .int .i64 kn, .int .i64 kp, .int .i64 kl, .string ks] 49)) (l := (sp, scpBox hp g (n + 1) cap) :: K))
 have R4 := HeapS.cellsOf (w0 := w0) (M := M) (hp := hp) (m3 (a := (sp, scpBox hp g (n + 1) cap)) (b := (w.heap.size + 1, Obj.cells #[.int .i64 vk, .bool vx, .int .i64 vn, .int .i64 vp, .int .i64 vl, .string vs] 49)) (c := (w.heap.size, Obj.cells #[.int .i64 kk, .bool kx, .int .i64 kn, .int .i64 kp, .int .i64 kl, .string ks] 49)) (d := (g, .cells cur 49)) (l := K)); have l1 := blk_lt (A1.box _ m0); have l2 := blk_lt (A1.box _ m1); have l3 := blk_lt (A1.box _ m2); have l4 := blk_lt (A1.box _ m3); have LS := hid' (fun W (h : Ats w0 W ((hp, L') :: M) ((w.heap.size + 1, Obj.cells #[.int .i64 vk, .bool vx, .int .i64 vn, .int .i64 vp, .int .i64 vl, .string vs] 49) :: (w.heap.size, Obj.cells #[.int .i64 kk, .bool kx, .int .i64 kn, .int .i64 kp, .int .i64 kl, .string ks] 49) :: (g, .cells cur 49) :: (sp, scpBox hp g (n + 1) cap) :: K)) => HB.out W (h.keep ((List.sublist_cons_self _ _).trans (List.sublist_cons_self _ _)))); have HS := hid' (fun w2 => HS w2 ((w.heap.size + 1, Obj.cells #[.int .i64 vk, .bool vx, .int .i64 vn, .int .i64 vp, .int .i64 vl, .string vs] 49) :: (w.heap.size, Obj.cells #[.int .i64 kk, .bool kx, .int .i64 kn, .int .i64 kp, .int .i64 kl, .string ks] 49) :: (g, .cells cur 49) :: (sp, scpBox hp g (n + 1) cap) :: K)); simp only at l1 l2 l3 l4; clear A HB; generalize ((w.heap.size + 1, Obj.cells #[.int .i64 vk, .bool vx, .int .i64 vn, .int .i64 vp, .int .i64 vl, .string vs] 49) :: (w.heap.size, Obj.cells #[.int .i64 kk, .bool kx, .int .i64 kn, .int .i64 kp, .int .i64 kl, .string ks] 49) :: (g, .cells cur 49) :: (sp, scpBox hp g (n + 1) cap) :: K : List (Nat × Obj)) = K' at *
 have S1 : HeapS w0 M K' hp ((w.alloc (.cells #[.int .i64 kk, .bool kx, .int .i64 kn, .int .i64 kp, .int .i64 kl, .string ks] 49)).alloc (.cells #[.int .i64 vk, .bool vx, .int .i64 vn, .int .i64 vp, .int .i64 vl, .string vs] 49)) := ⟨_, A1⟩
 have HA := hid' A1; clear A1; go_enter Tryz.func225, Tryz.ntmps225
 go_wp2_with fail
 generalize hW : (w.alloc _).alloc _ = w1 at *; clear hW
 go_region_held3 (fun W' => HeapS w0 M K' hp W') (first | assumption | (exact HeapS.drew (by assumption)) | (exact ⟨_, by assumption⟩))
  ((go_at_call 38; refine (HS.out _ (by first | exact HA.out | exact HA.out.drew)).mono ?_; rintro r w4 ⟨rfl, A4⟩))
 go_wp2_with fail
 go_ret; exact ⟨rfl, LS.out _ A4⟩
section
open Go.RowKit Go.Shelf
attribute [local go_sem] Oper.semAt_some
set_option maxRecDepth 100000 in
set_option maxHeartbeats 4000000 in
theorem down_any (l sp hp g n cap : Nat) (cur : Array Value) (ds : List O) (hl : ds.length = n) (hn : n ≤ 1000) (hcap : n ≤ cap) (hcur : ∀ i j d, ds[i]? = some d → j < 6 → cur[i * 6 + j]? = d.cells[j]?) (J : Nat → World → Prop) (Jx : World → Prop)
 (hR : ∀ k W, J k W → W.heap[sp]? = some (scpBox hp g n cap) ∧ W.heap[g]? = some (.cells cur 49))
 (hY : ∀ k d W, ds[n - 1 - k]? = some d → k < n → J k W → YieldAt Fence.wide 0 Tryz.prog l #[d.val] W fun e W' => (e = .returned (.bool true) ∧ J (k + 1) W') ∨ (e = .returned (.bool false) ∧ Jx W'))
 (W : World) (h0 : J 0 W) :
 CallsIn Fence.wide 0 Tryz.prog 99 #[ptr sp, .func (.yield l) #[] #[]] W fun e W' => (∃ v, e = .returned v) ∧ (J n W' ∨ Jx W') := by
 refine callsIn_of_wp Tryz.func99 rfl trivial ?_ rfl; simp only [Tryz.ntmps99, List.size_toArray, List.length_cons, List.length_nil, Nat.reduceAdd, Nat.reduceSub, Array.replicate_succ, Array.replicate_zero, List.push_toArray, List.append_toArray, List.nil_append, List.cons_append]; obtain ⟨r1, r2⟩ := hR 0 W h0; have R1 := cells_of r1; have l1 := blk_lt r1
 have hni : (n : Int) ≤ 1000 := by omega
 have h0n : (0 : Int) ≤ n := by omega
 gi_wp2
 clear R1 l1 r1 r2
 gi_loopw [4] (fun iv wr => ∃ k : Nat, k ≤ n ∧ iv = .int .i64 ((n : Int) - 1 - k) ∧ J k wr) (fun iv _ => (intOf iv + 1).toNat)
 case atStart => exact ⟨0, by omega, by simp, h0⟩
 case round =>
  obtain ⟨k, hk, rfl, hj⟩ := hrel; obtain ⟨r1, r2⟩ := hR k wr hj; have R1 := cells_of r1; have l1 := blk_lt r1; have R2 := cells_of r2; have l2 := blk_lt r2
  by_cases hlt : k < n
  · have hlt' : (0 : Int) ≤ (n : Int) - 1 - k := by omega
    obtain ⟨m, hm⟩ : ∃ m : Nat, (n : Int) - 1 - k = (m : Int) ∧ m = n - 1 - k ∧ m < n := ⟨n - 1 - k, by omega, rfl, by omega⟩
    obtain ⟨hm, hm1, hm2⟩ := hm
    have hmi : (m : Int) < n := by omega
    have hm0 : (0 : Int) ≤ m := by omega
    have hmc : (m : Int) < cap := by omega
    obtain ⟨d, hd⟩ : ∃ d, ds[m]? = some d := ⟨ds[m], List.getElem?_eq_getElem (by omega)⟩
    have hYk := hY k d wr (by rw [← hm1]; exact hd) hlt hj; have q := fun j hj => hcur m j d hd hj; have q0 := q 0 (by decide); have q1 := q 1 (by decide); have q2 := q 2 (by decide); have q3 := q 3 (by decide); have q4 := q 4 (by decide); have q5 := q 5 (by decide); obtain ⟨dk, dx, dn, dp, dl, dS⟩ := d; simp only [O.cells, List.getElem?_cons_zero, List.getElem?_cons_succ, Nat.add_zero] at q0 q1 q2 q3 q4 q5; clear q hd hcur hY; rw [hm]; have HM := hid' (And.intro hm hm1); clear hm hm1 hlt'; obtain ⟨fn, tmps, assign, body, hy, hRd⟩ := hYk
    gi_wp2
    refine ⟨rfl, hRd.mono ?_⟩; rintro e W3 (⟨rfl, hJ3⟩ | ⟨rfl, hJx3⟩)
    · gi_wp2
      go_roundw
      case rel => exact ⟨k + 1, by omega, by rw [show (m : Int) - 1 = (n : Int) - 1 - ((k + 1 : Nat) : Int) by have := HM.out.1; omega], hJ3⟩
      case measure => simp [intOf]
    · gi_wp2
      refine bodyPost_ret (results_none rfl _ _ _) rfl ?_; exact ⟨⟨_, rfl⟩, .inr hJx3⟩
  · obtain rfl : k = n := by omega
    have hlt' : ¬ (0 : Int) ≤ (k : Int) - 1 - k := by omega
    gi_wp2
    go_end0; exact ⟨⟨_, rfl⟩, .inl hj⟩
theorem Ats.putObj {b : Nat} {o : Obj} (A : Ats w0 w M ((b, o) :: K)) (o' : Obj) : Ats w0 (w.putObj b o') M ((b, o') :: K) := by
 have hb := A.box _ (List.mem_cons_self ..); refine A.renewG ⟨rfl, rfl, rfl, by simp, fun k hk hn => World.putObj_heap_other hn⟩ (World.putObj_heap_same (blk_lt hb)) (.inl rfl)
abbrev recOf (fn : Nat) (tmps : Array Value) (ps : Array Tmp) (assign body : Code) (D : Nat) (st : LoopState) (pe : Option Code) : Obj := .loop { state := st, pending := pe, fn, tmps, params := ps, assign, body, defers := D }
theorem range_meth {g : Operand} {s1 s2 : Nat} {assign body : Code} {Q : Exit → Act → World → Prop} {a : Act} (A : Ats w0 w M K)
 {gf : Nat} {rv : Value} (hg : a.eval g = .func (.func gf) #[rv] #[]) (eg : ∀ args w, (callFunc gf args).run Tryz.prog w = .ok (.enter gf args) w) (N : Nat) (enc : Nat → O)
 (T : Nat → Prop) (hT0 : T 0) (X : Nat → Prop) (Kx : Nat → List (Nat × Obj))
 (hassign : ∀ (k l : Nat) (E : List (Nat × Obj)) (W : World) (Kc : Act → World → Prop), k < N → Ats w0 W M (E ++ K) → (∀ b W', Ats w0 W' M ((b, obox (enc k)) :: (E ++ K)) → Kc { tmps := (a.tmps.setIfInBounds s1 (enc k).val).setIfInBounds s2 (.pointer (some ⟨b, 0, none⟩)), defers := [] } W') →
  assign.wpIn (Fence.wide.inRound l) 0 Tryz.prog (Exit.then Kc (fun _ _ _ => False)) { tmps := a.tmps.setIfInBounds s1 (enc k).val, defers := [] } W)
 (hbody : ∀ (k l b : Nat) (E : List (Nat × Obj)) (W : World), k < N → T k → Ats w0 W M ((b, obox (enc k)) :: (E ++ K)) →
  body.wpIn (Fence.wide.inRound l) 0 Tryz.prog (fun e _ W' => match e with | .normal => T (k + 1) ∧ Ats w0 W' M (E ++ K) | .ret => X k ∧ Ats w0 W' M (E ++ Kx k) | _ => False) { tmps := (a.tmps.setIfInBounds s1 (enc k).val).setIfInBounds s2 (.pointer (some ⟨b, 0, none⟩)), defers := [] } W)
 (hiter : ∀ (l : Nat) (J : Nat → World → Prop) (Jx : World → Prop) (W : World), (∀ k W, J k W → ∃ E, Ats w0 W M (E ++ K)) →
  (∀ k W, k < N → J k W → YieldAt Fence.wide 0 Tryz.prog l #[(enc k).val] W fun e W' => (e = .returned (.bool true) ∧ J (k + 1) W') ∨ (e = .returned (.bool false) ∧ Jx W')) → J 0 W →
  CallsIn Fence.wide 0 Tryz.prog gf #[rv, .func (.yield l) #[] #[]] W fun e W' => (∃ v, e = .returned v) ∧ (J N W' ∨ Jx W'))
 (hdone : ∀ (D : Nat) (E : List (Nat × Obj)) (W : World), T N → Ats w0 W M ((D, .deferred (some [])) :: (E ++ K)) → Q .normal { a with defers := { target := .collected D, args := #[] } :: a.defers } W)
 (hstop : ∀ (D k : Nat) (E : List (Nat × Obj)) (W : World), k < N → T k ∧ X k → Ats w0 W M ((D, .deferred (some [])) :: (E ++ Kx k)) → Q .ret { a with defers := { target := .collected D, args := #[] } :: a.defers } W) :
 (Code.rangeFunc g #[s1] assign body).wpIn Fence.wide 0 Tryz.prog Q a w := by
 refine wpIn_rangeFunc ?_; intro fn _
 obtain ⟨D, hD⟩ : ∃ D, w.heap.size = D := ⟨_, rfl⟩
 have A1 := (A.alloc (.deferred (some []))).alloc (recOf fn a.tmps #[s1] assign body D .ready none); rw [World.size_alloc, hD] at A1
 refine ⟨D + 1, [{ target := .collected D, args := #[] }], (w.alloc (.deferred (some []))).alloc (recOf fn a.tmps #[s1] assign body D .ready none), { target := .fn (.func gf) #[], args := #[rv, .func (.yield (D + 1)) #[] #[]] }, (w.alloc (.deferred (some []))).alloc (recOf fn a.tmps #[s1] assign body D .ready none), gf,
  #[rv, .func (.yield (D + 1)) #[] #[]], (w.alloc (.deferred (some []))).alloc (recOf fn a.tmps #[s1] assign body D .ready none), ?_, ?_, fun _ _ => trivial, ?_, fun h => by simp [Fence.wide] at h, ?_⟩
 · rw [← hD]; exact run_enterLoop_outer _ _ _ _ _
 · simp only [resolve, hg]; simp [go_sem]
 · simp [invoke, go_sem, eg]
 refine (hiter (D + 1) (fun k W => T k ∧ Ats w0 W M ((D + 1, recOf fn a.tmps #[s1] assign body D .ready none) :: (D, .deferred (some [])) :: K))
  (fun W => ∃ k, k < N ∧ (T k ∧ X k) ∧ Ats w0 W M ((D + 1, recOf fn a.tmps #[s1] assign body D .done (some .ret)) :: (D, .deferred (some [])) :: Kx k)) _ (fun k W h => ⟨[_, _], h.2⟩) ?_ ⟨hT0, A1⟩).mono ?_
 · rintro k W hk ⟨hT, hA⟩; have hl := hA.box _ (List.mem_cons_self ..); have hy := run_yield (P := Tryz.prog) (args := #[(enc k).val]) hl rfl
   have hz : (#[s1].zip #[(enc k).val]).foldl (fun t (x : Nat × Value) => t.setIfInBounds x.1 x.2) a.tmps = a.tmps.setIfInBounds s1 (enc k).val := by simp
   refine ⟨_, _, _, _, hy, roundIn_of_wpIn trivial ?_⟩; rw [show ((#[s1].zip #[(enc k).val]).foldl (fun t x => match x with | (p, v) => t.setIfInBounds p v) a.tmps) = a.tmps.setIfInBounds s1 (enc k).val from hz]; refine (hassign k (D + 1) [_, _] W _ hk hA ?_); intro b W2 hA2; have hl2 := hA2.box (D + 1, recOf fn a.tmps #[s1] assign body D .ready none) (List.mem_cons_of_mem _ (List.mem_cons_self ..)); refine ⟨_, run_beginRound hl2 rfl, ?_⟩; have hA3 := ((hA2.perm (List.Perm.swap _ _ _)).putObj (recOf fn a.tmps #[s1] assign body D .busy none)).perm (List.Perm.swap _ _ _); refine wpIn_mono (hbody k (D + 1) b [_, _] _ hk hT hA3) ?_; rintro e a3 W3 hp
   cases e with
   | normal =>
    have hA4 : Ats w0 W3 M ((D + 1, recOf fn a.tmps #[s1] assign body D .busy none) :: (D, .deferred (some [])) :: K) := hp.2; have hl4 := hA4.box _ (List.mem_cons_self ..); exact ⟨_, _, run_endRound none hl4, .inl ⟨rfl, hp.1, hA4.putObj _⟩⟩
   | ret =>
    have hA4 : Ats w0 W3 M ((D + 1, recOf fn a.tmps #[s1] assign body D .busy none) :: (D, .deferred (some [])) :: Kx k) := hp.2; have hl4 := hA4.box _ (List.mem_cons_self ..); exact ⟨_, _, run_endRound (some .ret) hl4, .inr ⟨rfl, k, hk, ⟨hT, hp.1⟩, hA4.putObj _⟩⟩
   | exit id => exact hp.elim
   | goto t => exact hp.elim
   | panic ch => exact hp.elim
   | outgrown => exact hp.elim
 · rintro e W2 ⟨⟨v, rfl⟩, (⟨hT, hA⟩ | ⟨k, hk, hT, hA⟩)⟩
   · have hl := hA.box _ (List.mem_cons_self ..); refine ⟨none, _, run_endLoop (P := Tryz.prog) hl (by simp), ?_⟩; exact hdone D [_] _ hT ((hA.putObj _).perm (List.Perm.swap _ _ _))
   · have hl := hA.box _ (List.mem_cons_self ..); refine ⟨some .ret, _, run_endLoop (P := Tryz.prog) hl (by simp), ?_⟩; exact wpIn_ret (hstop D k [_] _ hk hT ((hA.putObj _).perm (List.Perm.swap _ _ _)))
end
end Go.Proofs.YtpiomapnmempoaaGreat
