/- Parts of the proof: Scf, Sq, Shp. -/
import Derived.Test.YtpiomapnmempoaaGreatY12
namespace Go.Proofs.YtpiomapnmempoaaGreat
open Go.RowKit
variable {w w0 : World} {M : List (Nat × List C)} {E K : List (Nat × Obj)} {hp : Nat}
section
open Go.RowKit Go.Shelf
attribute [local go_sem] Oper.semAt_some
theorem perm3 {α : Type} (a b c d : α) (l : List α) : (a :: b :: c :: d :: l).Perm (d :: a :: b :: c :: l) :=
 List.perm_middle (l₁ := [a, b, c]) (l₂ := l) (a := d)
theorem perm2 {α : Type} (a b c : α) (l : List α) : (a :: b :: c :: l).Perm (c :: a :: b :: l) := List.perm_middle (l₁ := [a, b]) (l₂ := l) (a := c)
def TwoS (w0 : World) (M : List (Nat × List C)) (b8 : Nat) (gv : O) (b : Nat) (x : O) (RR : List (Nat × Obj)) (W : World) : Prop := ∃ y6 y5 y4, Ats w0 W M (y6 :: y5 :: y4 :: (b8, obox gv) :: (b, obox x) :: RR)
theorem TwoS.c1 {b8 : Nat} {gv : O} {b : Nat} {x : O} {RR : List (Nat × Obj)} : ∀ W, TwoS w0 M b8 gv b x RR W → ∀ i, W.cell? ⟨b8, i, none⟩ = #[Value.int .i64 gv.kind, .bool gv.exec, .int .i64 gv.n, .int .i64 gv.pos, .int .i64 gv.len, .string gv.s][i]? := by
 rintro W ⟨_, _, _, A⟩ i; exact cells_of (A.box _ m3) i
theorem TwoS.c2 {b8 : Nat} {gv : O} {b : Nat} {x : O} {RR : List (Nat × Obj)} : ∀ W, TwoS w0 M b8 gv b x RR W → ∀ i, W.cell? ⟨b, i, none⟩ = #[Value.int .i64 x.kind, .bool x.exec, .int .i64 x.n, .int .i64 x.pos, .int .i64 x.len, .string x.s][i]? := by
 rintro W ⟨_, _, _, A⟩ i; exact cells_of (A.box _ m4) i
theorem fin3 {R : List (Nat × Obj)} {y6 y5 y4 p q : Nat × Obj} (A : Ats w0 w M (y6 :: y5 :: y4 :: p :: q :: (E ++ R))) : Ats w0 w M (E ++ y6 :: y5 :: y4 :: R) := by
 have h : Ats w0 w M (y6 :: y5 :: y4 :: (E ++ R)) := A.keep ((((List.sublist_cons_self _ _).trans (List.sublist_cons_self _ _)).cons_cons _).cons_cons _ |>.cons_cons _); exact h.perm (List.perm_append_comm_assoc [y6, y5, y4] E R)
def findG (G : O → O × Int) : List O → O × O × Int
 | [] => (O.nil, O.nil, 9)
 | d :: r => if (G d).2 = 0 then ((G d).1, d, 0) else findG G r
theorem Ats.tail4 {a b c d x y : Nat × Obj} (A : Ats w0 w M (a :: b :: c :: d :: (E ++ x :: y :: K))) : Ats w0 w M K :=
 A.keep (((((((List.sublist_cons_self _ _).trans (List.sublist_cons_self _ _)).trans (List.sublist_append_right E _)).trans (List.sublist_cons_self _ _)).trans (List.sublist_cons_self _ _)).trans (List.sublist_cons_self _ _)).trans (List.sublist_cons_self _ _))
theorem Ats.tail5 {a b c d x y : Nat × Obj} (A : Ats w0 w M (a :: (E ++ b :: c :: d :: x :: y :: K))) : Ats w0 w M K :=
 A.keep (((((((List.sublist_cons_self _ _).trans (List.sublist_cons_self _ _)).trans (List.sublist_cons_self _ _)).trans (List.sublist_cons_self _ _)).trans (List.sublist_cons_self _ _)).trans (List.sublist_append_right E _)).trans (List.sublist_cons_self _ _))
theorem findG_miss (G : O → O × Int) : ∀ (l : List O), (∀ d ∈ l, (G d).2 ≠ 0) → findG G l = (O.nil, O.nil, 9)
 | [], _ => rfl
 | d :: r, h => by rw [findG, if_neg (h d (List.mem_cons_self ..)), findG_miss G r fun x hx => h x (List.mem_cons_of_mem _ hx)]
theorem findG_none (G : O → O × Int) (ds : List O) (n : Nat) (hn : ds.length = n) (h : ∀ j, j < n → (G (ds.reverse.getD j O.nil)).2 ≠ 0) : findG G ds.reverse = (O.nil, O.nil, 9) := by
 refine findG_miss G _ fun d hd => ?_; obtain ⟨j, hj, rfl⟩ := List.getElem_of_mem hd; have := h j (by rw [List.length_reverse] at hj; omega); rwa [List.getD_eq_getElem?_getD, List.getElem?_eq_getElem hj] at this
theorem findG_at (G : O → O × Int) : ∀ (l : List O) (k : Nat) (x : O), l[k]? = some x → (∀ j, j < k → (G (l.getD j O.nil)).2 ≠ 0) → (G x).2 = 0 → findG G l = ((G x).1, x, 0)
 | [], k, x, h, _, _ => by simp at h
 | d :: r, 0, x, h, _, hx => by simp at h; subst h; rw [findG, if_pos hx]
 | d :: r, k + 1, x, h, hm, hx => by
  rw [findG, if_neg (show ¬ (G d).2 = 0 from hm 0 (by omega))]; exact findG_at G r k x (by simpa using h) (fun j hj => hm (j + 1) (by omega)) hx
theorem findG_some (G : O → O × Int) (ds : List O) (n k : Nat) (hn : ds.length = n) (hk : k < n) (hT : (∀ j, j < k → (G (ds.reverse.getD j O.nil)).2 ≠ 0) ∧ (G (ds.reverse.getD k O.nil)).2 = 0) (x : O) (hx : ds.reverse.getD k O.nil = x) : findG G ds.reverse = ((G x).1, x, 0) := by
 have hr : k < ds.reverse.length := by rw [List.length_reverse]; omega
 have he : ds.reverse[k]? = some x := by
  rw [← hx, List.getD_eq_getElem?_getD, List.getElem?_eq_getElem hr]; rfl
 exact findG_at G _ k x he hT.1 (by rw [← hx]; exact hT.2)
set_option maxRecDepth 100000 in
set_option maxHeartbeats 8000000 in
theorem scp_findQ {Qp : World → Prop} {sp g n cap : Nat} {cur : Array Value} {ds : List O} {L : List C} (hn : ds.length = n) (h1 : n ≤ cap) (_h2 : cap ≤ maxLen) (_h3 : cur.size = cap * 6) (h4 : cur.toList.take (n * 6) = ds.flatMap O.cells) (A : Ats w0 w M ((g, .cells cur 49) :: (sp, scpBox hp g n cap) :: K))
 (HBq : ∀ w', Ats w0 w' M ((g, .cells cur 49) :: (sp, scpBox hp g n cap) :: K) → Qp w') (hm : (hp, L) ∈ M) (hl : ds.length ≤ 1000) (k : O) {key : O} (hk : keyD L k = (key, 0)) (G : O → O × Int)
 (HG : ∀ d ∈ ds, ∀ w2 K2, Ats w0 w2 M K2 → Calls Tryz.prog 100 #[ptr hp, d.val, key.val] w2 fun x w' => x = .returned (.tuple #[(G d).1.val, .int .i64 (G d).2]) ∧ Ats w0 w' M K2) :
 Calls Tryz.prog 69 #[ptr sp, k.val] w fun x w' => x = .returned (.tuple #[(findG G ds.reverse).1.val, (findG G ds.reverse).2.1.val, .int .i64 (findG G ds.reverse).2.2]) ∧ Qp w' := by
 rw [hn] at hl; have HB := hid' HBq; clear HBq; have HKA := hid' (fun (w' : World) (K' : List (Nat × Obj)) (A' : Ats w0 w' M K') => at_dkey A' k hk hm); obtain ⟨kk, kx, kn, kp, kl, ks⟩ := k; obtain ⟨ck, cx, cn, cp, cl, cs⟩ := key; have A1 := ((((A.alloc (.cells #[ptr sp] 56)).alloc (.cells #[.int .i64 kk, .bool kx, .int .i64 kn, .int .i64 kp, .int .i64 kl, .string ks] 49)).alloc (.cells #[.int .i64 0, .bool false, .int .i64 0, .int .i64 0, .int .i64 0, .string ⟨#[]⟩] 49)).alloc (.cells #[.int .i64 0, .bool false, .int .i64 0, .int .i64 0, .int .i64 0, .string ⟨#[]⟩] 49)).alloc (.cells #[.int .i64 0] 29); simp only [World.size_alloc] at A1; refine (callsIn_wide (n := 0)).1 ?_; refine callsIn_of_wp_marks Tryz.func69 rfl trivial ?_ rfl; refine wpIn_wide.2 ?_; refine Code.wp_mono NoPanic.imp ?_; simp only [Tryz.ntmps69, List.size_toArray, List.length_cons, List.length_nil, Nat.reduceAdd, Nat.reduceSub, Array.replicate_succ, Array.replicate_zero, List.push_toArray, List.append_toArray, List.nil_append, List.cons_append]; go_wp2_with fail
 have HA := hid' A1; have R3 := cells_of (A1.box _ m3); have l3 := blk_lt (A1.box _ m3); have R4 := cells_of (A1.box _ m4); have l4 := blk_lt (A1.box _ m4); have ms : ∀ {x0 x1 x2 x3 x4 : Nat × Obj}, (sp, scpBox hp g n cap) ∈ x0 :: x1 :: x2 :: x3 :: x4 :: (g, Obj.cells cur 49) :: (sp, scpBox hp g n cap) :: K := List.mem_cons_of_mem _ (List.mem_cons_of_mem _ (List.mem_cons_of_mem _ (List.mem_cons_of_mem _ (List.mem_cons_of_mem _ m1)))); have Rs := cells_of (A1.box _ ms); have ls := blk_lt (A1.box _ ms); simp only at l3 l4 ls R3 R4 Rs; generalize hW : ((((w.alloc _).alloc _).alloc _).alloc _).alloc _ = w1 at *; clear hW A A1; generalize w.heap.size = B at *
 go_region_with (first | (go_at_call 93; refine (HKA.out _ _ (by first | exact HA.out | exact HA.out.drew)).mono ?_; rintro r w4 ⟨rfl, A4⟩; have R34 := cells_of (A4.box _ m3); have Z34 := free_of (A4.box _ m3); have l34 := blk_lt (A4.box _ m3); have R04 := cells_of (A4.box _ m0); have Z04 := free_of (A4.box _ m0); have l04 := blk_lt (A4.box _ m0)) | fail)
 all_goals
  have A5 := ((((((A4.perm (perm3 _ _ _ _ _)).put 0 (.int .i64 ck)).put 1 (.bool cx)).put 2 (.int .i64 cn)).put 3 (.int .i64 cp)).put 4 (.int .i64 cl)).put 5 (.string cs); have A6 := (A5.perm (perm3 _ _ _ _ _).symm).put 0 (.int .i64 0); simp only [List.setIfInBounds_toArray, List.set_cons_zero, List.set_cons_succ] at A6; generalize ((((((w4.setCell ⟨B + 1, 0, none⟩ (.int .i64 ck)).setCell ⟨B + 1, 1, none⟩ (.bool cx)).setCell ⟨B + 1, 2, none⟩ (.int .i64 cn)).setCell ⟨B + 1, 3, none⟩ (.int .i64 cp)).setCell ⟨B + 1, 4, none⟩ (.int .i64 cl)).setCell ⟨B + 1, 5, none⟩ (.string cs)).setCell ⟨B + 1 + 1 + 1 + 1, 0, none⟩ (.int .i64 0) = w5 at *; have HA6 := hid' A6; have R0 := cells_of (A6.box _ m0); have l0 := blk_lt (A6.box _ m0); have R2 := cells_of (A6.box _ m4); have l2 := blk_lt (A6.box _ m4); simp only at R0 l0 R2 l2; clear R34 Z34 l34 R04 Z04 l04 A4 A5 A6 R3 l3 R4 l4 Rs ls HKA HA; go_wp2_with fail
  refine (wpIn_wide (n := 0)).1 ?_
  refine range_meth HA6.out (gf := 99) (rv := ptr sp) (s2 := 7) rfl (enters_of Tryz.func99 (by kernel_rfl) rfl) n (fun k => ds.reverse.getD k O.nil) (fun k => ∀ j, j < k → (G (ds.reverse.getD j O.nil)).2 ≠ 0) (fun j hj => absurd hj (by omega)) (fun k => (G (ds.reverse.getD k O.nil)).2 = 0)
   (fun k => (B + 1 + 1 + 1 + 1, .cells #[.int .i64 0] 29) :: (B + 1 + 1 + 1, obox (ds.reverse.getD k O.nil)) :: (B + 1 + 1, obox (G (ds.reverse.getD k O.nil)).1) :: (B + 1, obox ⟨ck, cx, cn, cp, cl, cs⟩) :: (B, .cells #[ptr sp] 56) :: (g, .cells cur 49) :: (sp, scpBox hp g n cap) :: K)
   ?assign ?body ?iter ?done ?stop
  case assign =>
   intro k l E W Kc hk hA hK; generalize ds.reverse.getD k O.nil = x at *; obtain ⟨xk, xe, xn, xp, xl, xs⟩ := x; simp only [List.setIfInBounds_toArray, List.set_cons_zero, List.set_cons_succ] at hK ⊢
   gi_wp2
   exact hA.alloc _
  case body =>
   intro k l b E W hk hT hA
   obtain ⟨x, hx⟩ : ∃ x, ds.reverse.getD k O.nil = x := ⟨_, rfl⟩
   have hxm : x ∈ ds := by
    rw [← hx, List.getD_eq_getElem?_getD, List.getElem?_eq_getElem (by rw [List.length_reverse]; omega)]; exact List.mem_reverse.1 (List.getElem_mem _)
   have hGx := hid' (HG x hxm)
   obtain ⟨gv, ge, hge⟩ : ∃ gv ge, G x = (gv, ge) := ⟨_, _, rfl⟩
   rw [hge] at hGx; have HT := hid' hT; have HX := hid' hx; have HGE := hid' hge; rw [hx] at hA ⊢; rw [hge]; clear hT hx hge hxm; obtain ⟨xk, xe, xn, xp, xl, xs⟩ := x; obtain ⟨vk, ve, vn, vp, vl, vs⟩ := gv; simp only [List.setIfInBounds_toArray, List.set_cons_zero, List.set_cons_succ]; have mt3 : ∀ {x0 : Nat × Obj} {E x1 x2 x3} {z : Nat × Obj} {r : List (Nat × Obj)}, z ∈ x0 :: (E ++ x1 :: x2 :: x3 :: z :: r) := List.mem_cons_of_mem _ (List.mem_append_right _ m3); have mt2 : ∀ {x0 : Nat × Obj} {E x1 x2 x3 x4} {z : Nat × Obj} {r : List (Nat × Obj)}, z ∈ x0 :: (E ++ x1 :: x2 :: x3 :: x4 :: z :: r) := List.mem_cons_of_mem _ (List.mem_append_right _ m4); have mss : ∀ {x0 : Nat × Obj} {E x1 x2 x3 x4 x5 x6} {z : Nat × Obj} {r : List (Nat × Obj)}, z ∈ x0 :: (E ++ x1 :: x2 :: x3 :: x4 :: x5 :: x6 :: z :: r) := List.mem_cons_of_mem _ (List.mem_append_right _ (List.mem_cons_of_mem _ m5)); have Rb := Ats.cellsOf (w0 := w0) (M := M) (m0 (a := (b, obox ⟨xk, xe, xn, xp, xl, xs⟩)) (l := E ++ (B + 1 + 1 + 1 + 1, .cells #[.int .i64 0] 29) :: (B + 1 + 1 + 1, obox O.nil) :: (B + 1 + 1, obox O.nil) :: (B + 1, obox ⟨ck, cx, cn, cp, cl, cs⟩) :: (B, .cells #[ptr sp] 56) :: (g, .cells cur 49) :: (sp, scpBox hp g n cap) :: K)); have R3 := Ats.cellsOf (w0 := w0) (M := M) (mt3 (x0 := (b, obox ⟨xk, xe, xn, xp, xl, xs⟩)) (E := E) (x1 := (B + 1 + 1 + 1 + 1, .cells #[.int .i64 0] 29)) (x2 := (B + 1 + 1 + 1, obox O.nil)) (x3 := (B + 1 + 1, obox O.nil)) (z := (B + 1, obox ⟨ck, cx, cn, cp, cl, cs⟩)) (r := (B, .cells #[ptr sp] 56) :: (g, .cells cur 49) :: (sp, scpBox hp g n cap) :: K))
   have R2 := Ats.cellsOf (w0 := w0) (M := M) (mt2 (x0 := (b, obox ⟨xk, xe, xn, xp, xl, xs⟩)) (E := E) (x1 := (B + 1 + 1 + 1 + 1, .cells #[.int .i64 0] 29)) (x2 := (B + 1 + 1 + 1, obox O.nil)) (x3 := (B + 1 + 1, obox O.nil)) (x4 := (B + 1, obox ⟨ck, cx, cn, cp, cl, cs⟩)) (z := (B, .cells #[ptr sp] 56)) (r := (g, .cells cur 49) :: (sp, scpBox hp g n cap) :: K)); have Rs := Ats.cellsOf (w0 := w0) (M := M) (mss (x0 := (b, obox ⟨xk, xe, xn, xp, xl, xs⟩)) (E := E) (x1 := (B + 1 + 1 + 1 + 1, .cells #[.int .i64 0] 29)) (x2 := (B + 1 + 1 + 1, obox O.nil)) (x3 := (B + 1 + 1, obox O.nil)) (x4 := (B + 1, obox ⟨ck, cx, cn, cp, cl, cs⟩)) (x5 := (B, .cells #[ptr sp] 56)) (x6 := (g, .cells cur 49)) (z := (sp, scpBox hp g n cap)) (r := K)); have lb := blk_lt (hA.box _ m0); have l3 := blk_lt (hA.box _ mt3); have l2 := blk_lt (hA.box _ mt2); have ls := blk_lt (hA.box _ mss); simp only at lb l3 l2 ls; change Ats w0 W M ((b, obox ⟨xk, xe, xn, xp, xl, xs⟩) :: (E ++ (B + 1 + 1 + 1 + 1, .cells #[.int .i64 0] 29) :: (B + 1 + 1 + 1, obox O.nil) :: (B + 1 + 1, obox O.nil) :: (B + 1, obox ⟨ck, cx, cn, cp, cl, cs⟩) :: (B, .cells #[ptr sp] 56) :: (g, .cells cur 49) :: (sp, scpBox hp g n cap) :: K)) at hA; have LS := hid' (fun (W : World) (h : Ats w0 W M ((b, obox ⟨xk, xe, xn, xp, xl, xs⟩) :: (E ++ (B + 1 + 1 + 1 + 1, .cells #[.int .i64 0] 29) :: (B + 1 + 1 + 1, obox O.nil) :: (B + 1 + 1, obox O.nil) :: (B + 1, obox ⟨ck, cx, cn, cp, cl, cs⟩) :: (B, .cells #[ptr sp] 56) :: (g, .cells cur 49) :: (sp, scpBox hp g n cap) :: K))) => h.keep (List.sublist_cons_self _ _))
   obtain ⟨KL, hKL⟩ : ∃ KL, (b, obox ⟨xk, xe, xn, xp, xl, xs⟩) :: (E ++ (B + 1 + 1 + 1 + 1, .cells #[.int .i64 0] 29) :: (B + 1 + 1 + 1, obox O.nil) :: (B + 1 + 1, obox O.nil) :: (B + 1, obox ⟨ck, cx, cn, cp, cl, cs⟩) :: (B, .cells #[ptr sp] 56) :: (g, .cells cur 49) :: (sp, scpBox hp g n cap) :: K) = KL := ⟨_, rfl⟩
   rw [hKL] at hA Rb R3 R2 Rs LS; have HKL := hid' hKL; have HA := hid' hA; clear hKL hA
   have hmx : Tryz.prog.follows .mixedOrders = true := by kernel_rfl
   gi_wp2
   refine region_in (S := fun W' => Ats w0 W' M KL) hmx (by rintro ⟨a, w, h⟩; exact h) (by kernel_rfl) HA.out.drew (fun hHeld => ?_); refine wpAnyH_take (i := 0) (oi := { dst := some 32, op := _, type := _, pos := _, after := _, guard := _ }) (v := ?_) rfl (by kernel_rfl) (by kernel_rfl) (by kernel_rfl) (fun _ _ _ h => h) (Or.inl ⟨by rfl, ?_⟩) (by assumption) ?_; rotate_left
   · intro w hSw; go_simp; try with_reducible rfl
   try simp only [Act.put, List.setIfInBounds_toArray, List.set_cons_zero, List.set_cons_succ]
   refine wpAnyH_take (i := 1) (oi := { dst := some 33, op := _, type := _, pos := _, after := _, guard := _ }) (v := ?_) rfl (by kernel_rfl) (by kernel_rfl) (by kernel_rfl) (fun _ _ _ h => h) (Or.inl ⟨by rfl, ?_⟩) (by assumption) ?_; rotate_left
   · intro w hSw; go_simp; try with_reducible rfl
   try simp only [Act.put, List.setIfInBounds_toArray, List.set_cons_zero, List.set_cons_succ]
   refine wpAnyH_take (i := 2) (oi := { dst := some 34, op := _, type := _, pos := _, after := _, guard := _ }) (v := ?_) rfl (by kernel_rfl) (by kernel_rfl) (by kernel_rfl) (fun _ _ _ h => h) (Or.inl ⟨by rfl, ?_⟩) (by assumption) ?_; rotate_left
   · intro w hSw; go_simp; try with_reducible rfl
   try simp only [Act.put, List.setIfInBounds_toArray, List.set_cons_zero, List.set_cons_succ]
   refine wpAnyH_take (i := 3) (oi := { dst := some 35, op := _, type := _, pos := _, after := _, guard := _ }) (v := ?_) rfl (by kernel_rfl) (by kernel_rfl) (by kernel_rfl) (fun _ _ _ h => h) (Or.inl ⟨by rfl, ?_⟩) (by assumption) ?_; rotate_left
   · intro w hSw; go_simp; try with_reducible rfl
   try simp only [Act.put, List.setIfInBounds_toArray, List.set_cons_zero, List.set_cons_succ]
   refine wpAnyH_take (i := 4) (oi := { dst := some 36, op := _, type := _, pos := _, after := _, guard := _ }) (v := ?_) rfl (by kernel_rfl) (by kernel_rfl) (by kernel_rfl) (fun _ _ _ h => h) (Or.inl ⟨by rfl, ?_⟩) (by assumption) ?_; rotate_left
   · intro w hSw; go_simp; try with_reducible rfl
   try simp only [Act.put, List.setIfInBounds_toArray, List.set_cons_zero, List.set_cons_succ]
   refine wpAnyH_take (i := 5) (oi := { dst := some 37, op := _, type := _, pos := _, after := _, guard := _ }) (v := ?_) rfl (by kernel_rfl) (by kernel_rfl) (by kernel_rfl) (fun _ _ _ h => h) (Or.inl ⟨by rfl, ?_⟩) (by assumption) ?_; rotate_left
   · intro w hSw; go_simp; try with_reducible rfl
   try simp only [Act.put, List.setIfInBounds_toArray, List.set_cons_zero, List.set_cons_succ]
   refine wpAnyH_ready (rs := [6, 10]) (by kernel_rfl) (by simp) ?_; refine AllReadyH.cons (o := { dst := some 38, op := _, type := _, pos := _, after := _, guard := _ }) rfl (fun K' hK' => ?_) ?_
   · go_simp
     refine (hGx.out _ _ HA.out.drew).mono ?_; rintro r w4 ⟨rfl, A4⟩; go_wp2_with fail
     refine hK'.out _ _ (A4) (fun hHeld2 => ?_); clear hK' K'
     try simp only [Act.put, List.setIfInBounds_toArray, List.set_cons_zero, List.set_cons_succ]
     refine wpAnyH_take (i := 7) (oi := { dst := some 31, op := _, type := _, pos := _, after := _, guard := _ }) (v := ?_) rfl (by kernel_rfl) (by kernel_rfl) (by kernel_rfl) (fun _ _ _ h => h) (Or.inl ⟨by rfl, ?_⟩) (by assumption) ?_; rotate_left
     · intro w hSw; go_simp; try with_reducible rfl
     try simp only [Act.put, List.setIfInBounds_toArray, List.set_cons_zero, List.set_cons_succ]
     refine wpAnyH_take (i := 8) (oi := { dst := some 39, op := _, type := _, pos := _, after := _, guard := _ }) (v := ?_) rfl (by kernel_rfl) (by kernel_rfl) (by kernel_rfl) (fun _ _ _ h => h) (Or.inl ⟨by rfl, ?_⟩) (by assumption) ?_; rotate_left
     · intro w hSw; go_simp; try with_reducible rfl
     try simp only [Act.put, List.setIfInBounds_toArray, List.set_cons_zero, List.set_cons_succ]
     refine wpAnyH_take (i := 9) (oi := { dst := some 40, op := _, type := _, pos := _, after := _, guard := _ }) (v := ?_) rfl (by kernel_rfl) (by kernel_rfl) (by kernel_rfl) (fun _ _ _ h => h) (Or.inl ⟨by rfl, ?_⟩) (by assumption) ?_; rotate_left
     · intro w hSw; go_simp; try with_reducible rfl
     try simp only [Act.put, List.setIfInBounds_toArray, List.set_cons_zero, List.set_cons_succ]
     refine wpAnyH_ready (rs := [10]) (by kernel_rfl) (by simp) ?_; refine AllReadyH.cons (o := { dst := some 8, op := _, type := _, pos := _, after := _, guard := _ }) rfl (fun K' hK' => ?_) AllReadyH.nil; go_simp
     refine hK'.out _ _ ((A4.alloc _).keep (List.sublist_cons_self _ _)) (fun hHeld2 => ?_); clear hK' K'
     try simp only [Act.put, List.setIfInBounds_toArray, List.set_cons_zero, List.set_cons_succ]
     refine wpAnyH_ready (rs := [11]) (by kernel_rfl) (by simp) ?_; refine AllReadyH.cons (o := { dst := none, op := _, type := _, pos := _, after := _, guard := _ }) rfl (fun K' hK' => ?_) AllReadyH.nil; go_simp
     refine hK'.out _ _ ((A4.alloc _).keep (List.sublist_cons_self _ _)) (fun hHeld2 => ?_); clear hK' K'
     try simp only [Act.put, List.setIfInBounds_toArray, List.set_cons_zero, List.set_cons_succ]
     refine wpAnyH_take (i := 12) (oi := { dst := some 9, op := _, type := _, pos := _, after := _, guard := _ }) (v := ?_) rfl (by kernel_rfl) (by kernel_rfl) (by kernel_rfl) (fun _ _ _ h => h) (Or.inl ⟨by rfl, ?_⟩) (by assumption) ?_; rotate_left
     · intro w hSw; go_simp; try with_reducible rfl
     try simp only [Act.put, List.setIfInBounds_toArray, List.set_cons_zero, List.set_cons_succ]
     refine wpAnyH_done (by kernel_rfl) ?_ _; have A5 := A4.alloc (.cells #[.int .i64 vk, .bool ve, .int .i64 vn, .int .i64 vp, .int .i64 vl, .string vs] 49); clear R2 R3 Rb Rs lb l2 l3 ls hHeld hHeld2; generalize hW5 : w4.alloc (.cells #[.int .i64 vk, .bool ve, .int .i64 vn, .int .i64 vp, .int .i64 vl, .string vs] 49) = w5 at *; clear hW5; generalize w4.heap.size = b8 at *; rw [← HKL.out] at A5; have HA5 := hid' A5
     by_cases hz : ge = 0
     · subst hz; have A7 := A5.perm (List.perm_append_comm_assoc (_ :: _ :: E) [_, _, _] _); change Ats w0 w5 M (_ :: _ :: _ :: (b8, obox ⟨vk, ve, vn, vp, vl, vs⟩) :: (b, obox ⟨xk, xe, xn, xp, xl, xs⟩) :: (E ++ (B + 1, obox ⟨ck, cx, cn, cp, cl, cs⟩) :: (B, .cells #[ptr sp] 56) :: (g, .cells cur 49) :: (sp, scpBox hp g n cap) :: K)) at A7; have LR := hid' (fun (W : World) y6 y5 y4 (h : Ats w0 W M (y6 :: y5 :: y4 :: (b8, obox ⟨vk, ve, vn, vp, vl, vs⟩) :: (b, obox ⟨xk, xe, xn, xp, xl, xs⟩) :: (E ++ (B + 1, obox ⟨ck, cx, cn, cp, cl, cs⟩) :: (B, .cells #[ptr sp] 56) :: (g, .cells cur 49) :: (sp, scpBox hp g n cap) :: K))) => fin3 h); generalize (E ++ (B + 1, obox ⟨ck, cx, cn, cp, cl, cs⟩) :: (B, .cells #[ptr sp] 56) :: (g, .cells cur 49) :: (sp, scpBox hp g n cap) :: K : List (Nat × Obj)) = RR at *
       have A8 := (A7.perm (perm2 _ _ _ _))
       have q6 := cells_of (A7.box _ m0); have z6 := free_of (A7.box _ m0); have y6 := blk_lt (A7.box _ m0); simp only at q6 z6 y6; have q5 := cells_of (A7.box _ m1); have z5 := free_of (A7.box _ m1); have y5 := blk_lt (A7.box _ m1); simp only at q5 z5 y5; have q4 := cells_of (A7.box _ m2); have z4 := free_of (A7.box _ m2); have y4 := blk_lt (A7.box _ m2); simp only at q4 z4 y4; have A9 := ((((((A8.put 0 (.int .i64 vk)).put 1 (.bool ve)).put 2 (.int .i64 vn)).put 3 (.int .i64 vp)).put 4 (.int .i64 vl)).put 5 (.string vs)).perm (perm2 _ _ _ _); simp only [List.setIfInBounds_toArray, List.set_cons_zero, List.set_cons_succ] at A9; have A10 := ((((((A9.put 0 (.int .i64 xk)).put 1 (.bool xe)).put 2 (.int .i64 xn)).put 3 (.int .i64 xp)).put 4 (.int .i64 xl)).put 5 (.string xs)).perm (perm2 _ _ _ _); simp only [List.setIfInBounds_toArray, List.set_cons_zero, List.set_cons_succ] at A10; have A11 := A10.put 0 (.int .i64 0); simp only [List.setIfInBounds_toArray, List.set_cons_zero] at A11; have HA := hid' A7; have HA9 := hid' A9; have HA10 := hid' A10; have HA11 := hid' A11; clear A5 A7 A8 A9 A10 A11; have q8 := TwoS.c1 (w0 := w0) (M := M) (b8 := b8) (gv := ⟨vk, ve, vn, vp, vl, vs⟩) (b := b) (x := ⟨xk, xe, xn, xp, xl, xs⟩) (RR := RR); have q7 := TwoS.c2 (w0 := w0) (M := M) (b8 := b8) (gv := ⟨vk, ve, vn, vp, vl, vs⟩) (b := b) (x := ⟨xk, xe, xn, xp, xl, xs⟩) (RR := RR); simp only at q8 q7; have y8 := blk_lt (HA.out.box _ m3); have y7 := blk_lt (HA.out.box _ m4); simp only at y8 y7
       gi_wp2
       refine region_in (S := fun W' => TwoS w0 M b8 ⟨vk, ve, vn, vp, vl, vs⟩ b ⟨xk, xe, xn, xp, xl, xs⟩ RR W') hmx (by rintro ⟨a, w, h⟩; exact h) (by kernel_rfl) ⟨_, _, _, HA.out.drew⟩ (fun hHeld => ?_); refine wpAnyH_take (i := 0) (oi := { dst := some 43, op := _, type := _, pos := _, after := _, guard := _ }) (v := ?_) rfl (by kernel_rfl) (by kernel_rfl) (by kernel_rfl) (fun _ _ _ h => h) (Or.inl ⟨by rfl, ?_⟩) (by assumption) ?_; rotate_left
       · intro w hSw; go_simp; try with_reducible rfl
       try simp only [Act.put, List.setIfInBounds_toArray, List.set_cons_zero, List.set_cons_succ]
       refine wpAnyH_take (i := 1) (oi := { dst := some 44, op := _, type := _, pos := _, after := _, guard := _ }) (v := ?_) rfl (by kernel_rfl) (by kernel_rfl) (by kernel_rfl) (fun _ _ _ h => h) (Or.inl ⟨by rfl, ?_⟩) (by assumption) ?_; rotate_left
       · intro w hSw; go_simp; try with_reducible rfl
       try simp only [Act.put, List.setIfInBounds_toArray, List.set_cons_zero, List.set_cons_succ]
       refine wpAnyH_take (i := 2) (oi := { dst := some 45, op := _, type := _, pos := _, after := _, guard := _ }) (v := ?_) rfl (by kernel_rfl) (by kernel_rfl) (by kernel_rfl) (fun _ _ _ h => h) (Or.inl ⟨by rfl, ?_⟩) (by assumption) ?_; rotate_left
       · intro w hSw; go_simp; try with_reducible rfl
       try simp only [Act.put, List.setIfInBounds_toArray, List.set_cons_zero, List.set_cons_succ]
       refine wpAnyH_ready (rs := [3]) (by kernel_rfl) (by simp) ?_; refine AllReadyH.cons (o := { dst := none, op := _, type := _, pos := _, after := _, guard := _ }) rfl (fun K' hK' => ?_) AllReadyH.nil; go_simp
       refine hK'.out _ _ (⟨_, _, _, HA9.out.drew⟩) (fun hHeld3 => ?_); clear hK' K'
       try simp only [Act.put, List.setIfInBounds_toArray, List.set_cons_zero, List.set_cons_succ]
       refine wpAnyH_ready (rs := [4]) (by kernel_rfl) (by simp) ?_; refine AllReadyH.cons (o := { dst := none, op := _, type := _, pos := _, after := _, guard := _ }) rfl (fun K' hK' => ?_) AllReadyH.nil; go_simp
       refine hK'.out _ _ (⟨_, _, _, HA10.out.drew⟩) (fun hHeld3 => ?_); clear hK' K'
       try simp only [Act.put, List.setIfInBounds_toArray, List.set_cons_zero, List.set_cons_succ]
       refine wpAnyH_ready (rs := [5]) (by kernel_rfl) (by simp) ?_; refine AllReadyH.cons (o := { dst := none, op := _, type := _, pos := _, after := _, guard := _ }) rfl (fun K' hK' => ?_) AllReadyH.nil; go_simp
       refine hK'.out _ _ (⟨_, _, _, HA11.out.drew⟩) (fun hHeld3 => ?_); clear hK' K'
       try simp only [Act.put, List.setIfInBounds_toArray, List.set_cons_zero, List.set_cons_succ]
       refine wpAnyH_done (by kernel_rfl) ?_ _
       gi_wp2
       exact LR.out _ _ _ _ HA11.out.drew
     · have hz' : (ge == 0) = false := by simpa using hz
       have HZ := hid' hz; clear hz A5
       gi_wp2
       refine ⟨fun j hj => ?_, HA5.out.keep ((List.sublist_cons_self _ _).trans (List.sublist_cons_self _ _))⟩
       by_cases hjk : j = k
       · subst hjk; show ¬ (G (ds.reverse.getD j O.nil)).2 = 0; rw [HX.out, HGE.out]; exact HZ.out
       · exact HT.out j (by omega)
   refine AllReadyH.cons (o := { dst := some 8, op := _, type := _, pos := _, after := _, guard := _ }) rfl (fun K' hK' => ?_) AllReadyH.nil; go_simp
   refine hK'.out _ _ ((HA.out.alloc _).drew.keep (List.sublist_cons_self _ _)) (fun hHeld2 => ?_); clear hK' K'
   try simp only [Act.put, List.setIfInBounds_toArray, List.set_cons_zero, List.set_cons_succ]
   refine wpAnyH_ready (rs := [6]) (by kernel_rfl) (by simp) ?_; refine AllReadyH.cons (o := { dst := some 38, op := _, type := _, pos := _, after := _, guard := _ }) rfl (fun K' hK' => ?_) AllReadyH.nil; go_simp
   refine (hGx.out _ _ ((HA.out.alloc _).drew)).mono ?_; rintro r w4 ⟨rfl, A4⟩; have R0 := cells_of (A4.box _ (List.mem_cons_self ..)); have Z0 := free_of (A4.box _ (List.mem_cons_self ..)); have l0 := blk_lt (A4.box _ (List.mem_cons_self ..)); simp only at R0 Z0 l0; go_wp2_with fail
   refine hK'.out _ _ (A4.keep (List.sublist_cons_self _ _)) (fun hHeld2 => ?_); clear hK' K'
   try simp only [Act.put, List.setIfInBounds_toArray, List.set_cons_zero, List.set_cons_succ]
   refine wpAnyH_take (i := 7) (oi := { dst := some 31, op := _, type := _, pos := _, after := _, guard := _ }) (v := ?_) rfl (by kernel_rfl) (by kernel_rfl) (by kernel_rfl) (fun _ _ _ h => h) (Or.inl ⟨by rfl, ?_⟩) (by assumption) ?_; rotate_left
   · intro w hSw; go_simp; try with_reducible rfl
   try simp only [Act.put, List.setIfInBounds_toArray, List.set_cons_zero, List.set_cons_succ]
   refine wpAnyH_take (i := 8) (oi := { dst := some 39, op := _, type := _, pos := _, after := _, guard := _ }) (v := ?_) rfl (by kernel_rfl) (by kernel_rfl) (by kernel_rfl) (fun _ _ _ h => h) (Or.inl ⟨by rfl, ?_⟩) (by assumption) ?_; rotate_left
   · intro w hSw; go_simp; try with_reducible rfl
   try simp only [Act.put, List.setIfInBounds_toArray, List.set_cons_zero, List.set_cons_succ]
   refine wpAnyH_take (i := 9) (oi := { dst := some 40, op := _, type := _, pos := _, after := _, guard := _ }) (v := ?_) rfl (by kernel_rfl) (by kernel_rfl) (by kernel_rfl) (fun _ _ _ h => h) (Or.inl ⟨by rfl, ?_⟩) (by assumption) ?_; rotate_left
   · intro w hSw; go_simp; try with_reducible rfl
   try simp only [Act.put, List.setIfInBounds_toArray, List.set_cons_zero, List.set_cons_succ]
   refine wpAnyH_ready (rs := [11]) (by kernel_rfl) (by simp) ?_; refine AllReadyH.cons (o := { dst := none, op := _, type := _, pos := _, after := _, guard := _ }) rfl (fun K' hK' => ?_) AllReadyH.nil; go_simp
   have A5 := (((((A4.put 0 (.int .i64 vk)).put 1 (.bool ve)).put 2 (.int .i64 vn)).put 3 (.int .i64 vp)).put 4 (.int .i64 vl)).put 5 (.string vs); simp only [List.setIfInBounds_toArray, List.set_cons_zero, List.set_cons_succ] at A5; refine hK'.out _ _ (A5.keep (List.sublist_cons_self _ _)) (fun hHeld2 => ?_); clear hK' K'
   try simp only [Act.put, List.setIfInBounds_toArray, List.set_cons_zero, List.set_cons_succ]
   refine wpAnyH_take (i := 12) (oi := { dst := some 9, op := _, type := _, pos := _, after := _, guard := _ }) (v := ?_) rfl (by kernel_rfl) (by kernel_rfl) (by kernel_rfl) (fun _ _ _ h => h) (Or.inl ⟨by rfl, ?_⟩) (by assumption) ?_; rotate_left
   · intro w hSw; go_simp; try with_reducible rfl
   try simp only [Act.put, List.setIfInBounds_toArray, List.set_cons_zero, List.set_cons_succ]
   refine wpAnyH_done (by kernel_rfl) ?_ _; clear R2 R3 Rb Rs lb l2 l3 ls hHeld hHeld2; generalize hW5 : (((((w4.setCell _ _).setCell _ _).setCell _ _).setCell _ _).setCell _ _).setCell _ _ = w5 at *; clear hW5; generalize W.heap.size = b8 at *; rw [← HKL.out] at A5; have HA5 := hid' A5
   by_cases hz : ge = 0
   · subst hz; have A7 := A5.perm (List.perm_append_comm_assoc (_ :: _ :: E) [_, _, _] _); change Ats w0 w5 M (_ :: _ :: _ :: (b8, obox ⟨vk, ve, vn, vp, vl, vs⟩) :: (b, obox ⟨xk, xe, xn, xp, xl, xs⟩) :: (E ++ (B + 1, obox ⟨ck, cx, cn, cp, cl, cs⟩) :: (B, .cells #[ptr sp] 56) :: (g, .cells cur 49) :: (sp, scpBox hp g n cap) :: K)) at A7; have LR := hid' (fun (W : World) y6 y5 y4 (h : Ats w0 W M (y6 :: y5 :: y4 :: (b8, obox ⟨vk, ve, vn, vp, vl, vs⟩) :: (b, obox ⟨xk, xe, xn, xp, xl, xs⟩) :: (E ++ (B + 1, obox ⟨ck, cx, cn, cp, cl, cs⟩) :: (B, .cells #[ptr sp] 56) :: (g, .cells cur 49) :: (sp, scpBox hp g n cap) :: K))) => fin3 h); generalize (E ++ (B + 1, obox ⟨ck, cx, cn, cp, cl, cs⟩) :: (B, .cells #[ptr sp] 56) :: (g, .cells cur 49) :: (sp, scpBox hp g n cap) :: K : List (Nat × Obj)) = RR at *
     have A8 := (A7.perm (perm2 _ _ _ _))
     have q6 := cells_of (A7.box _ m0); have z6 := free_of (A7.box _ m0); have y6 := blk_lt (A7.box _ m0); simp only at q6 z6 y6; have q5 := cells_of (A7.box _ m1); have z5 := free_of (A7.box _ m1); have y5 := blk_lt (A7.box _ m1); simp only at q5 z5 y5; have q4 := cells_of (A7.box _ m2); have z4 := free_of (A7.box _ m2); have y4 := blk_lt (A7.box _ m2); simp only at q4 z4 y4; have A9 := ((((((A8.put 0 (.int .i64 vk)).put 1 (.bool ve)).put 2 (.int .i64 vn)).put 3 (.int .i64 vp)).put 4 (.int .i64 vl)).put 5 (.string vs)).perm (perm2 _ _ _ _); simp only [List.setIfInBounds_toArray, List.set_cons_zero, List.set_cons_succ] at A9; have A10 := ((((((A9.put 0 (.int .i64 xk)).put 1 (.bool xe)).put 2 (.int .i64 xn)).put 3 (.int .i64 xp)).put 4 (.int .i64 xl)).put 5 (.string xs)).perm (perm2 _ _ _ _); simp only [List.setIfInBounds_toArray, List.set_cons_zero, List.set_cons_succ] at A10; have A11 := A10.put 0 (.int .i64 0); simp only [List.setIfInBounds_toArray, List.set_cons_zero] at A11; have HA := hid' A7; have HA9 := hid' A9; have HA10 := hid' A10; have HA11 := hid' A11; clear A5 A7 A8 A9 A10 A11; have q8 := TwoS.c1 (w0 := w0) (M := M) (b8 := b8) (gv := ⟨vk, ve, vn, vp, vl, vs⟩) (b := b) (x := ⟨xk, xe, xn, xp, xl, xs⟩) (RR := RR); have q7 := TwoS.c2 (w0 := w0) (M := M) (b8 := b8) (gv := ⟨vk, ve, vn, vp, vl, vs⟩) (b := b) (x := ⟨xk, xe, xn, xp, xl, xs⟩) (RR := RR); simp only at q8 q7; have y8 := blk_lt (HA.out.box _ m3); have y7 := blk_lt (HA.out.box _ m4); simp only at y8 y7
     gi_wp2
     refine region_in (S := fun W' => TwoS w0 M b8 ⟨vk, ve, vn, vp, vl, vs⟩ b ⟨xk, xe, xn, xp, xl, xs⟩ RR W') hmx (by rintro ⟨a, w, h⟩; exact h) (by kernel_rfl) ⟨_, _, _, HA.out.drew⟩ (fun hHeld => ?_); refine wpAnyH_take (i := 0) (oi := { dst := some 43, op := _, type := _, pos := _, after := _, guard := _ }) (v := ?_) rfl (by kernel_rfl) (by kernel_rfl) (by kernel_rfl) (fun _ _ _ h => h) (Or.inl ⟨by rfl, ?_⟩) (by assumption) ?_; rotate_left
     · intro w hSw; go_simp; try with_reducible rfl
     try simp only [Act.put, List.setIfInBounds_toArray, List.set_cons_zero, List.set_cons_succ]
     refine wpAnyH_take (i := 1) (oi := { dst := some 44, op := _, type := _, pos := _, after := _, guard := _ }) (v := ?_) rfl (by kernel_rfl) (by kernel_rfl) (by kernel_rfl) (fun _ _ _ h => h) (Or.inl ⟨by rfl, ?_⟩) (by assumption) ?_; rotate_left
     · intro w hSw; go_simp; try with_reducible rfl
     try simp only [Act.put, List.setIfInBounds_toArray, List.set_cons_zero, List.set_cons_succ]
     refine wpAnyH_take (i := 2) (oi := { dst := some 45, op := _, type := _, pos := _, after := _, guard := _ }) (v := ?_) rfl (by kernel_rfl) (by kernel_rfl) (by kernel_rfl) (fun _ _ _ h => h) (Or.inl ⟨by rfl, ?_⟩) (by assumption) ?_; rotate_left
     · intro w hSw; go_simp; try with_reducible rfl
     try simp only [Act.put, List.setIfInBounds_toArray, List.set_cons_zero, List.set_cons_succ]
     refine wpAnyH_ready (rs := [3]) (by kernel_rfl) (by simp) ?_; refine AllReadyH.cons (o := { dst := none, op := _, type := _, pos := _, after := _, guard := _ }) rfl (fun K' hK' => ?_) AllReadyH.nil; go_simp
     refine hK'.out _ _ (⟨_, _, _, HA9.out.drew⟩) (fun hHeld3 => ?_); clear hK' K'
     try simp only [Act.put, List.setIfInBounds_toArray, List.set_cons_zero, List.set_cons_succ]
     refine wpAnyH_ready (rs := [4]) (by kernel_rfl) (by simp) ?_; refine AllReadyH.cons (o := { dst := none, op := _, type := _, pos := _, after := _, guard := _ }) rfl (fun K' hK' => ?_) AllReadyH.nil; go_simp
     refine hK'.out _ _ (⟨_, _, _, HA10.out.drew⟩) (fun hHeld3 => ?_); clear hK' K'
     try simp only [Act.put, List.setIfInBounds_toArray, List.set_cons_zero, List.set_cons_succ]
     refine wpAnyH_ready (rs := [5]) (by kernel_rfl) (by simp) ?_; refine AllReadyH.cons (o := { dst := none, op := _, type := _, pos := _, after := _, guard := _ }) rfl (fun K' hK' => ?_) AllReadyH.nil; go_simp
     refine hK'.out _ _ (⟨_, _, _, HA11.out.drew⟩) (fun hHeld3 => ?_); clear hK' K'
     try simp only [Act.put, List.setIfInBounds_toArray, List.set_cons_zero, List.set_cons_succ]
     refine wpAnyH_done (by kernel_rfl) ?_ _
     gi_wp2
     exact LR.out _ _ _ _ HA11.out.drew
   · have hz' : (ge == 0) = false := by simpa using hz
     have HZ := hid' hz; clear hz A5
     gi_wp2
     refine ⟨fun j hj => ?_, HA5.out.keep ((List.sublist_cons_self _ _).trans (List.sublist_cons_self _ _))⟩
     by_cases hjk : j = k
     · subst hjk; show ¬ (G (ds.reverse.getD j O.nil)).2 = 0; rw [HX.out, HGE.out]; exact HZ.out
     · exact HT.out j (by omega)
  case iter =>
   intro l J Jx W hJ hY hj0; refine down_any l sp hp g n cap cur ds hn hl h1 (fun i j d hd hj => ?_) J Jx (fun k W h => ?_) (fun k d W hd hk hj => ?_) W hj0
   · have hi : i < n := by have := (List.getElem?_eq_some_iff.1 hd).1; omega
     have hh : (cur.toList.take (n * 6))[i * 6 + j]? = cur.toList[i * 6 + j]? := List.getElem?_take_of_lt (by omega); rw [← Array.getElem?_toList, ← hh, h4, flat_get O.cells 6 cells_length j hj, hd]; rfl
   · obtain ⟨E, hE⟩ := hJ k W h; exact ⟨hE.box (sp, scpBox hp g n cap) (List.mem_append_right _ ms), hE.box (g, .cells cur 49) (List.mem_append_right _ m5)⟩
   · have hd2 : ds.reverse.getD k O.nil = d := by rw [List.getD_eq_getElem?_getD, List.getElem?_reverse (by omega), hn, hd]; rfl
     have := hY k W hk hj; rwa [hd2] at this
  case done =>
   intro D E W hT hA; have q6 := cells_of (hA.box (B + 1 + 1 + 1 + 1, .cells #[.int .i64 0] 29) (List.mem_cons_of_mem _ (List.mem_append_right _ m0))); have z6 := free_of (hA.box (B + 1 + 1 + 1 + 1, .cells #[.int .i64 0] 29) (List.mem_cons_of_mem _ (List.mem_append_right _ m0))); have y6 := blk_lt (hA.box (B + 1 + 1 + 1 + 1, .cells #[.int .i64 0] 29) (List.mem_cons_of_mem _ (List.mem_append_right _ m0))); have q5 := cells_of (hA.box (B + 1 + 1 + 1, obox O.nil) (List.mem_cons_of_mem _ (List.mem_append_right _ m1))); have z5 := free_of (hA.box (B + 1 + 1 + 1, obox O.nil) (List.mem_cons_of_mem _ (List.mem_append_right _ m1))); have y5 := blk_lt (hA.box (B + 1 + 1 + 1, obox O.nil) (List.mem_cons_of_mem _ (List.mem_append_right _ m1))); have q4 := cells_of (hA.box (B + 1 + 1, obox O.nil) (List.mem_cons_of_mem _ (List.mem_append_right _ m2))); have z4 := free_of (hA.box (B + 1 + 1, obox O.nil) (List.mem_cons_of_mem _ (List.mem_append_right _ m2))); have y4 := blk_lt (hA.box (B + 1 + 1, obox O.nil) (List.mem_cons_of_mem _ (List.mem_append_right _ m2))); have HT := hid' hT; clear hT; simp only [O.nil] at q6 z6 y6 q5 z5 y5 q4 z4 y4; go_wp2_with fail
   go_region
   have A7 := hA.perm (List.perm_append_comm_assoc (_ :: E) [_, _, _] _); change Ats w0 W M ((B + 1 + 1 + 1 + 1, .cells #[.int .i64 0] 29) :: (B + 1 + 1 + 1, .cells #[.int .i64 0, .bool false, .int .i64 0, .int .i64 0, .int .i64 0, .string ⟨#[]⟩] 49) :: (B + 1 + 1, .cells #[.int .i64 0, .bool false, .int .i64 0, .int .i64 0, .int .i64 0, .string ⟨#[]⟩] 49) :: (D, .deferred (some [])) :: (E ++ (B + 1, obox ⟨ck, cx, cn, cp, cl, cs⟩) :: (B, .cells #[ptr sp] 56) :: (g, .cells cur 49) :: (sp, scpBox hp g n cap) :: K)) at A7; have A9 := (((((((A7.perm (perm2 _ _ _ _)).put 0 (.int .i64 0)).put 1 (.bool false)).put 2 (.int .i64 0)).put 3 (.int .i64 0)).put 4 (.int .i64 0)).put 5 (.string ⟨#[]⟩)).perm (perm2 _ _ _ _); simp only [List.setIfInBounds_toArray, List.set_cons_zero, List.set_cons_succ] at A9; have A10 := ((((((A9.put 0 (.int .i64 0)).put 1 (.bool false)).put 2 (.int .i64 0)).put 3 (.int .i64 0)).put 4 (.int .i64 0)).put 5 (.string ⟨#[]⟩)).perm (perm2 _ _ _ _); simp only [List.setIfInBounds_toArray, List.set_cons_zero, List.set_cons_succ] at A10; have A11 := (A10.put 0 (.int .i64 9)).drew; simp only [List.setIfInBounds_toArray, List.set_cons_zero] at A11; have A12 := (A11.perm (List.perm_middle (l₁ := [_, _, _]))).putObj (.deferred none); have hK := A11.box _ m3; have HF := hid' (findG_none G ds n hn HT.out)
   all_goals go_wp2_with fail
   all_goals refine ⟨by simp, .inl ⟨_, _, rfl, run_takeDeferred hK, ?_⟩⟩
   all_goals
    have p4 := cells_of (A12.box _ m3); have u4 := blk_lt (A12.box _ m3); have p5 := cells_of (A12.box _ m2); have u5 := blk_lt (A12.box _ m2); have p6 := cells_of (A12.box _ m1); have u6 := blk_lt (A12.box _ m1); simp only at p4 u4 p5 u5 p6 u6; rw [HF.out]; refine ⟨.tuple #[O.nil.val, O.nil.val, .int .i64 9], ?_, rfl, HB.out _ (Ats.tail4 A12)⟩; generalize World.putObj _ D _ = W2 at *; simp [results, Tryz.results69, go_sem, p4, p5, p6, O.nil]
  case stop =>
   intro D k E W hk hT hA; have hK := hA.box _ m0
   obtain ⟨x, hx⟩ : ∃ x, ds.reverse.getD k O.nil = x := ⟨_, rfl⟩
   rw [hx] at hA; have HF := hid' (findG_some G ds n k hn hk hT x hx); clear hT; have A12 := hA.putObj (.deferred none); have p4 := cells_of (A12.box (B + 1 + 1, obox (G x).1) (List.mem_cons_of_mem _ (List.mem_append_right _ m2))); have u4 := blk_lt (A12.box (B + 1 + 1, obox (G x).1) (List.mem_cons_of_mem _ (List.mem_append_right _ m2))); have p5 := cells_of (A12.box (B + 1 + 1 + 1, obox x) (List.mem_cons_of_mem _ (List.mem_append_right _ m1))); have u5 := blk_lt (A12.box (B + 1 + 1 + 1, obox x) (List.mem_cons_of_mem _ (List.mem_append_right _ m1))); have p6 := cells_of (A12.box (B + 1 + 1 + 1 + 1, .cells #[.int .i64 0] 29) (List.mem_cons_of_mem _ (List.mem_append_right _ m0))); have u6 := blk_lt (A12.box (B + 1 + 1 + 1 + 1, .cells #[.int .i64 0] 29) (List.mem_cons_of_mem _ (List.mem_append_right _ m0))); simp only at p4 u4 p5 u5 p6 u6; go_wp2_with fail
   refine ⟨by simp, .inl ⟨_, _, rfl, run_takeDeferred hK, ?_⟩⟩; rw [HF.out]; refine ⟨.tuple #[(G x).1.val, x.val, .int .i64 0], ?_, rfl, HB.out _ (Ats.tail5 A12)⟩; generalize World.putObj _ D _ = W2 at *; simp [results, Tryz.results69, go_sem, p4, p5, p6]
theorem scp_find {sp : Nat} {ds : List O} {L : List C} (S : ScpAt w0 w M K sp hp ds) (hm : (hp, L) ∈ M) (hl : ds.length ≤ 1000) (_h0 : 0 < ds.length) (k : O) {key : O} (hk : keyD L k = (key, 0)) (G : O → O × Int)
 (HG : ∀ d ∈ ds, ∀ w2 K2, Ats w0 w2 M K2 → Calls Tryz.prog 100 #[ptr hp, d.val, key.val] w2 fun x w' => x = .returned (.tuple #[(G d).1.val, .int .i64 (G d).2]) ∧ Ats w0 w' M K2) :
 Calls Tryz.prog 69 #[ptr sp, k.val] w fun x w' => x = .returned (.tuple #[(findG G ds.reverse).1.val, (findG G ds.reverse).2.1.val, .int .i64 (findG G ds.reverse).2.2]) ∧ ScpAt w0 w' M K sp hp ds := by
 obtain ⟨g, cap, cur, h1, h2, h3, h4, A⟩ := S; exact scp_findQ (Qp := fun w' => ScpAt w0 w' M K sp hp ds) rfl h1 h2 h3 h4 A (fun w' A' => ⟨g, cap, cur, h1, h2, h3, h4, A'⟩) hm hl k hk G HG
end
abbrev DQ := List (O × O) × Nat × Bool
def hQ (Q : List DQ) : List C := Q.map fun q => dcellk q.2.2 q.1 q.2.1
abbrev dcn (i : Nat) : O := dicO (i : Int)
def dsQ (n : Nat) : List O := (List.range n).map dcn
def OKQ (Q : List DQ) : Prop := (∀ q ∈ Q, q.1.length ≤ q.2.1 ∧ q.2.1 ≤ 1000 ∧ q.1.length < 256) ∧ Q.length ≤ 1000
theorem dsQ_length (n : Nat) : (dsQ n).length = n := by simp [dsQ]
theorem dsQ_succ (n : Nat) : dsQ (n + 1) = dsQ n ++ [dcn n] := by simp [dsQ, List.range_succ]
theorem hQ_set (Q : List DQ) (n : Nat) (q : DQ) : hQ (Q.set n q) = (hQ Q).set n (dcellk q.2.2 q.1 q.2.1) := by simp [hQ]
theorem q_at (Q : List DQ) (h : OKQ Q) (n : Nat) (q : DQ) (hq : Q[n]? = some q) : DicAt (hQ Q) n (dcellk q.2.2 q.1 q.2.1) ∧ q.1.length ≤ q.2.1 ∧ q.2.1 ≤ 1000 ∧ q.1.length < 256 := by
 have hm := List.mem_of_getElem? hq; have hl := (List.getElem?_eq_some_iff.1 hq).1; have hb := h.1 q hm; have h2 := h.2; exact ⟨⟨by simp [hQ, hq], rfl, rfl, rfl, by simp only [dItems_length _ _ hb.1]; omega, by omega⟩, hb⟩
def lookN (Q : List DQ) (key : O) : Nat → O × O × Int
 | 0 => (O.nil, O.nil, 9)
 | n + 1 => match getK (Q.getD n ([], 0, false)).1 key with
  | some v => (v, dcn n, 0)
  | none => lookN Q key n
def getQ (Q : List DQ) (key : O) (d : O) : O × Int := match getK (Q.getD d.n.toNat ([], 0, false)).1 key with
 | some v => (v, 0)
 | none => (O.nil, 9)
theorem find_look (Q : List DQ) (key : O) : ∀ n, findG (getQ Q key) (dsQ n).reverse = lookN Q key n
 | 0 => rfl
 | n + 1 => by
  rw [dsQ_succ, List.reverse_append]; show findG (getQ Q key) (dcn n :: (dsQ n).reverse) = _; rw [findG, lookN]
  have e : getQ Q key (dcn n) = match getK (Q.getD n ([], 0, false)).1 key with | some v => (v, 0) | none => (O.nil, 9) := by
   simp only [getQ, Int.toNat_natCast]
  rw [e]
  cases getK (Q.getD n ([], 0, false)).1 key with
  | none => simp only; rw [if_neg (by decide)]; exact find_look Q key n
  | some v => simp only; rw [if_pos trivial]
theorem key_self (L : List C) (s : ByteArray) (hs : s.size ≤ 100) : keyD L (nameO s) = (nameO s, 0) := key_name L s false hs
noncomputable def sysQ : List DQ := [(sysK 162, 162, true), ([], 200, false)]
theorem q_new (A : Ats w0 w ((hp, []) :: M) K) :
 Calls Tryz.prog 23 #[ptr hp] w fun e w' => ∃ sp, e = .returned (.tuple #[ptr sp, .int .i64 0]) ∧ ScpAt w0 w' ((hp, hQ sysQ) :: M) K sp hp (dsQ 2) := by
 refine (scp_new A).mono ?_; rintro e w' ⟨sp, lb, rfl, A2⟩; exact ⟨sp, rfl, lb, 2, _, Nat.le_refl _, by decide, rfl, rfl, A2.perm (List.Perm.swap _ _ _)⟩
def rndQ (s : ByteArray) (p j : Nat) : DQ := if j % 2 = p then ([(nameO s, numO j)], 3, false) else ([], 3, false)
noncomputable def HQ (s : ByteArray) (p i : Nat) : List DQ := sysQ ++ (List.range i).map (rndQ s p)
theorem used_cat' (A B : List C) : used (A ++ B) = used A + used B := by simp [used]
theorem used_dc (lk : Bool) (ps : List (O × O)) (room : Nat) (h : ps.length ≤ room) : used [dcellk lk ps room] = 2 * room + 1 := by
 simp [used, C.size, dItems_length ps room h]
end Go.Proofs.YtpiomapnmempoaaGreat
