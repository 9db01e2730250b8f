/- Parts of the proof: Cva, Vaa. -/
import Derived.Test.YtpiomapnmempoaaGreatY14
import Derived.Test.YtpiomapnmempoaaGreatY18
namespace Go.Proofs.YtpiomapnmempoaaGreat
open Go.RowKit
variable {w w0 : World} {M : List (Nat × List C)} {sp : Nat} {l : List O} {K : List (Nat × Obj)}
theorem num_int (o : O) (hk : o.kind = 3) (h0 : -16383 ≤ o.n) (h1 : o.n ≤ 16383) (w : World) :
 Calls Tryz.prog 211 #[o.val] w fun e w' => e = .returned (.tuple #[.int .i64 (o.n * 65536), .bool true]) ∧ Chg NoB w w' := by
 obtain ⟨kk, kx, n, kp, kl, ks⟩ := o; simp only at hk h0 h1; subst hk
 have HF : ∀ w, Calls Tryz.prog 246 #[.int .i64 n] w fun e w' => e = .returned (.tuple #[.int .i64 (n * 65536), .bool true]) ∧ w = w' := by
  intro w; go_enter Tryz.func246, Tryz.ntmps246
  go_wp2_with fail
  go_ret2
  exact ⟨rfl, rfl⟩
 have HF := hid' HF; go_enter Tryz.func211, Tryz.ntmps211
 go_wp2_with fail
 refine (HF.out _).mono ?_; rintro e w1 ⟨rfl, rfl⟩; go_wp2_with fail
 go_ret2
 exact ⟨rfl, (Chg.refl NoB w).alloc _⟩
abbrev inO (v : Int) : O := ⟨3, false, v, 0, 0, ⟨#[]⟩⟩
set_option maxRecDepth 100000 in
theorem whole_ok (v : Int) (h0 : -2147483647 ≤ v) (h1 : v ≤ 2147483647) (w : World) : Calls Tryz.prog 102 #[.int .i64 v] w fun e w' => e = .returned (.tuple #[(inO v).val, .bool true]) ∧ Chg NoB w w' := by
 go_enter Tryz.func102, Tryz.ntmps102
 go_wp2_with fail
 refine bodyPost_ret (v := .tuple #[(inO v).val, .bool true]) ?_ rfl ⟨rfl, ?_⟩
 · simp [results, Tryz.results102, go_sem]
 · exact (Chg.refl NoB w).alloc _
theorem giveV {W : World} {KB : List (Nat × Obj)} {g : Nat} {ops gv : List O} {cur : Array Value} (S : StkAt w0 W M ((g, .cells cur 49) :: KB) sp (l ++ ops)) (hc : cur.toList = gv.flatMap O.cells) (n : Nat) (hn : ops.length = n) (k : Nat) (hk : gv.length = k) (hroom : l.length + k ≤ 200) (hmay : ∀ o ∈ gv, mayO o = true) :
 Calls Tryz.prog 123 #[ptr sp, .int .i64 n, .slice (some ⟨g, 0, none⟩) k k] W fun e w' => e = .returned (.int .i64 0) ∧ StkAt w0 w' M KB sp (l ++ gv) :=
 (hand_give S n hn k hk hroom hmay (some ⟨g, 0, none⟩) k (Nat.le_refl _) (fun m o ho => ⟨g, 0, cur, _, rfl, m0, fun j hj => reads_of hc m o ho j hj⟩)).mono fun _ _ h => ⟨h.1, h.2.keep (List.sublist_cons_self _ _)⟩
theorem may_inO (v : Int) (h0 : -2147483647 ≤ v) (h1 : v ≤ 2147483647) : mayO (inO v) = true := by simp [mayO, eqO, bareO, O.nil, h0, h1]
set_option maxRecDepth 100000 in
set_option maxHeartbeats 1000000 in
theorem ar_whole {ops : List O} (S : StkAt w0 w M K sp (l ++ ops)) (n : Nat) (hn : ops.length = n) (v : Int) (h0 : -2147483647 ≤ v) (h1 : v ≤ 2147483647) (hl : l.length + 1 ≤ 200) :
 Calls Tryz.prog 202 #[ptr sp, .int .i64 n, .int .i64 v] w fun r w' => r = .returned (.int .i64 0) ∧ StkAt w0 w' M K sp (l ++ [inO v]) := by
 have HW := hid' (fun w' => whole_ok v h0 h1 w')
 have HG := hid' (fun (W : World) (g : Nat) (K' : List (Nat × Obj)) (cur : Array Value) (hc : cur.toList = [inO v].flatMap O.cells) (S' : StkAt w0 W M ((g, .cells cur 49) :: K') sp (l ++ ops)) => giveV S' hc n hn 1 rfl hl (fun o ho => by
  rw [List.mem_singleton.1 ho]; exact may_inO v h0 h1))
 clear hn h0 h1 hl; go_enter Tryz.func202, Tryz.ntmps202
 go_wp2_with fail
 refine (HW.out _).mono ?_; rintro r w5 ⟨rfl, X5⟩; have S5 := S.pure X5; clear S X5; have S6 := S5.alloc (.cells #[.int .i64 3, .bool false, .int .i64 v, .int .i64 0, .int .i64 0, .string ⟨#[]⟩] 49)
 go_upto_region 4 with (fail)
 generalize hW : w5.alloc _ = w6 at *; generalize w5.heap.size = b5 at *; clear hW S5
 (try clear Rz); (try clear yz); (try clear Zz)
 have Rz := cells_of (S6.box _ m0); have yz := blk_lt (S6.box _ m0)
 (try simp only at Rz yz)
 have S7 := S6.alloc (.cells #[.int .i64 3, .bool false, .int .i64 v, .int .i64 0, .int .i64 0, .string ⟨#[]⟩] 49); go_wp2_with fail
 refine (HG.out _ _ _ _ rfl S7).mono ?_; rintro r w8 ⟨rfl, S8⟩; go_wp2_with fail
 go_ret; exact ⟨rfl, S8.keep (List.sublist_cons_self _ _)⟩
set_option maxRecDepth 100000 in
theorem ar_add (a b : Int) (S : StkAt w0 w M K sp (l ++ [inO a, inO b])) (_ha : -2147483647 ≤ a) (_ha' : a ≤ 2147483647) (_hb : -2147483647 ≤ b) (_hb' : b ≤ 2147483647) (h0 : -2147483647 ≤ a + b) (h1 : a + b ≤ 2147483647) (hl : l.length + 1 ≤ 200) :
 Calls Tryz.prog 201 #[ptr sp, .int .i64 11, (inO a).val, (inO b).val] w fun r w' => r = .returned (.int .i64 0) ∧ StkAt w0 w' M K sp (l ++ [inO (a + b)]) := by
 have HW := hid' (fun W K' (S' : StkAt w0 W M K' sp (l ++ [inO a, inO b])) => ar_whole S' 2 rfl (a + b) h0 h1 hl)
 have S1 := (S.alloc (obox (inO a)))
 have S2 := S1.alloc (obox (inO b)); have hi : IntKind.i64.wrap (a + b) = a + b := IntWalk.i64_in (a + b) (by omega); clear S S1 h0 h1 _ha _ha' _hb _hb' hl; go_enter Tryz.func201, Tryz.ntmps201
 go_wp2_with fail
 refine (HW.out _ _ S2).mono ?_; rintro r w8 ⟨rfl, S8⟩; go_wp2_with fail
 go_ret; exact ⟨rfl, S8.keep ((List.sublist_cons_self _ _).trans (List.sublist_cons_self _ _))⟩
set_option maxRecDepth 100000 in
theorem ar_div0 (a : Int) (S : StkAt w0 w M K sp l) (ha : -16383 ≤ a) (ha' : a ≤ 16383) :
 Calls Tryz.prog 201 #[ptr sp, .int .i64 14, (inO a).val, (inO 0).val] w fun r w' => r = .returned (.int .i64 19) ∧ StkAt w0 w' M K sp l := by
 have HA := hid' (fun w => num_int (inO a) rfl ha ha' w); have HB := hid' (fun w => num_int (inO 0) rfl (by decide) (by decide) w)
 have S1 := (S.alloc (obox (inO a)))
 have S2 := S1.alloc (obox (inO 0)); have R0 := cells_of (S2.box _ (List.mem_cons_self ..)); have y0 := blk_lt (S2.box _ (List.mem_cons_self ..)); clear S S1 ha ha'; go_enter Tryz.func201, Tryz.ntmps201
 go_wp2_with fail
 refine (HA.out _).mono ?_; rintro r w5 ⟨rfl, X5⟩; have S5 := S2.pure X5; clear S2 X5 R0
 (try clear Rz); (try clear yz); (try clear Zz)
 have Rz := cells_of (S5.box _ m0); have yz := blk_lt (S5.box _ m0)
 (try simp only at Rz yz)
 simp only [World.size_alloc] at Rz yz; go_wp2_with fail
 refine (HB.out _).mono ?_; rintro r w6 ⟨rfl, X6⟩; go_wp2_with fail
 go_ret; exact ⟨rfl, (S5.pure X6).keep ((List.sublist_cons_self _ _).trans (List.sublist_cons_self _ _))⟩
set_option maxRecDepth 100000 in
set_option maxHeartbeats 1000000 in
theorem ar_two {M' : List (Nat × List C)} {l' : List O} {e : Int} (n : Int) (hn : n = 11 ∨ n = 12 ∨ n = 13 ∨ n = 14) (a b : O) (S : StkAt w0 w M K sp (l ++ [a, b])) (ha : isK 24 a.kind = true) (hb : isK 24 b.kind = true)
 (H : ∀ W K', StkAt w0 W M K' sp (l ++ [a, b]) → Calls Tryz.prog 201 #[ptr sp, .int .i64 n, a.val, b.val] W fun r w' => r = .returned (.int .i64 e) ∧ StkAt w0 w' M' K' sp l') :
 Calls Tryz.prog 141 #[ptr sp, .int .i64 n] w fun r w' => r = .returned (.int .i64 e) ∧ StkAt w0 w' M' K sp l' := by
 have HT := hid' (fun (w' : World) (g : Nat) (K' : List (Nat × Obj)) (S' : StkAt w0 w' M ((g, .cells #[.int .i64 24, .int .i64 24] 3) :: K') sp (l ++ [a, b])) => hand_take S' [24, 24] g m0 rfl (fun i k o h1 h2 => by
  rcases i with _ | _ | i
  · simp at h1 h2; subst h1 h2; exact ha
  · simp at h1 h2; subst h1 h2; exact hb
  · simp at h1) 2 rfl)
 have HH := hid' H; have S1 := S.alloc (.cells #[.int .i64 24, .int .i64 24] 3); obtain ⟨ak, ax, an, ap, al, ay⟩ := a; obtain ⟨bk, bx, bn, bp, bl, bt⟩ := b; clear S H ha hb
 have hd : ∀ (X : Prop), ((n = 11 → X) ∧ (n = 12 → X) ∧ (n = 13 → X) ∧ (n = 14 → X)) → X := fun X ⟨h1, h2, h3, h4⟩ => by
  rcases hn with h | h | h | h
  · exact h1 h
  · exact h2 h
  · exact h3 h
  · exact h4 h
 refine hd _ ⟨?_, ?_, ?_, ?_⟩
 all_goals
  intro h; subst h; clear hd hn; go_enter Tryz.func141, Tryz.ntmps141
  go_wp2_with fail
  refine (HT.out _ _ _ S1).mono ?_; rintro r w2 ⟨g, cur, rfl, hc, S2⟩; obtain ⟨p0, p1, p2, p3, p4, p5⟩ := at6 hc (m := 0) rfl; obtain ⟨q0, q1, q2, q3, q4, q5⟩ := at6 hc (m := 1) rfl; simp only [Nat.zero_mul, Nat.zero_add, Nat.one_mul] at p0 p1 p2 p3 p4 p5 q0 q1 q2 q3 q4 q5; clear S1
  (try clear Rg); (try clear yg); (try clear Zg)
  have Rg := cells_of (S2.box _ m0); have yg := blk_lt (S2.box _ m0)
  (try simp only at Rg yg)
  go_upto_region 16 with (fail)
  simp only [Nat.reduceAdd] at p1 p2 p3 p4 p5 q1 q2 q3 q4 q5
  have T1 : Hid (∀ o o', StkAt w0 ((w2.alloc o).alloc o') M ((w2.heap.size + 1, o') :: (w2.heap.size, o) :: (g, .cells cur 49) :: (w.heap.size, .cells #[.int .i64 24, .int .i64 24] 3) :: K) sp (l ++ [⟨ak, ax, an, ap, al, ay⟩, ⟨bk, bx, bn, bp, bl, bt⟩])) := hid' (fun o o' => by
   have h := (S2.alloc o).alloc o'
   rwa [World.size_alloc] at h)
  clear S2
  go_region
  all_goals
   go_wp2_with fail
   refine (HH.out _ _ (T1.out _ _).drew).mono ?_; rintro r w8 ⟨rfl, S8⟩; go_wp2_with fail
   go_ret; exact ⟨rfl, S8.keep (((List.sublist_cons_self _ _).trans (List.sublist_cons_self _ _)).trans ((List.sublist_cons_self _ _).trans (List.sublist_cons_self _ _)))⟩
set_option maxRecDepth 100000 in
theorem ar_do {M' : List (Nat × List C)} {l' : List O} {e : Int} (n : Int) (hn : n = 11 ∨ n = 14) (S : StkAt w0 w M K sp l) (hf : ∀ w, Calls Tryz.prog 131 #[.int .i64 n] w fun r w' => r = .returned (.int .i64 1) ∧ Chg NoB w w')
 (H : ∀ W K', StkAt w0 W M K' sp l → Calls Tryz.prog 141 #[ptr sp, .int .i64 n] W fun r w' => r = .returned (.int .i64 e) ∧ StkAt w0 w' M' K' sp l') :
 Calls Tryz.prog 132 #[ptr sp, .int .i64 n] w fun r w' => r = .returned (.int .i64 e) ∧ StkAt w0 w' M' K sp l' := by
 have HH := hid' H; have HF := hid' hf; clear H hf
 rcases hn with rfl | rfl
 all_goals
  go_enter Tryz.func132, Tryz.ntmps132
  go_wp2_with fail
  refine (HF.out _).mono ?_; rintro r w1 ⟨rfl, X1⟩; have S1 := S.pure X1; go_wp2_with fail
  refine (HH.out _ _ S1).mono ?_; rintro r w8 ⟨rfl, S8⟩; go_wp2_with fail
  go_ret; exact ⟨rfl, S8⟩
end Go.Proofs.YtpiomapnmempoaaGreat
