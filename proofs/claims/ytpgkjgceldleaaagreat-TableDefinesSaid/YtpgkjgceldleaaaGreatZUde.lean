/- TableDefines: the walk. -/
import Derived.Test.YtpgkjgceldleaaaGreatZTable
namespace Go.Proofs.YtpgkjgceldleaaaGreat
open Go.RowKit

theorem num20_miss (s : ByteArray) (w : World) : (∃ (i : Nat) (fam : Nat), opT[i]? = some (fam, s.toList)) ∨ (∀ W, Calls Tryz.prog 8 #[.string s] W fun e w' => e = .returned (.tuple #[.int .i64 0, .bool false]) ∧ Chg NoB W w') := by
  by_cases h : ∃ k, ∃ (hk : k < opT.length), opT[k].2 = s.toList
  · obtain ⟨k, hk, e⟩ := h
    exact .inl ⟨k, opT[k].1, by rw [List.getElem?_eq_getElem hk, ← e]⟩
  · exact .inr fun W => number_miss s (fun k hk e => h ⟨k, hk, e⟩) W
theorem ba_toArray (s : ByteArray) : (⟨s.toList.toArray⟩ : ByteArray) = s := by rw [ByteArray.toList_eq]
set_option maxRecDepth 100000 in
set_option maxHeartbeats 40000000 in
theorem tableDefines_def (s : ByteArray) (v u : Int) (hs : s.size ≤ 100) (hv : -32768 ≤ v ∧ v < 32768) (hu : -32768 ≤ u ∧ u < 32768) (hadd : (s.toList == [97, 100, 100]) = false) (HN : ∀ W, Calls Tryz.prog 8 #[.string s] W fun e w' => e = .returned (.tuple #[.int .i64 0, .bool false]) ∧ Chg NoB W w') (w : World) :
    Calls Tryz.prog 3 #[.string s, .int .i16 v, .int .i16 u, .bool false] w fun e w' => e = .returned (.bool true) ∧ Chg NoB w w' := by
    have HKN := hid' (known20_any w)
    have HN := hid' HN
    obtain ⟨f, hf⟩ : ∃ f, f = deF s (iO v) (iO u) (vQ s (iO v) [(nameO s, iO u)]) 2 0 (iO v) := ⟨_, rfl⟩
    have hD := defQ_def s (iO v) (iO u)
    have D0 : Hid (∀ hp cp sp gp tp dv KB W, TQ w hp cp sp KB (f 0) W → Calls Tryz.prog 10 #[xVal hp cp sp gp dv tp, .string ⟨#[100, 101, 102]⟩, .slice (some ⟨W.heap.size, 0, none⟩) 2 2] (W.alloc (Obj.cells #[.int .i64 5, .bool false, .int .i64 0, .int .i64 0, .int .i64 0, .string s, .int .i64 3, .bool false, .int .i64 v, .int .i64 0, .int .i64 0, .string ⟨#[]⟩] 38)) fun r w' => r = .returned (.int .i64 0) ∧ TQ w hp cp sp KB (f 1) w') := hid' (by rw [hf]; exact fun hp cp sp gp tp dv KB W => de_0 hs hv hu hp cp sp gp tp dv KB W)
    have D1 : Hid (∀ hp cp sp gp tp dv KB W, TQ w hp cp sp KB (f 1) W → Calls Tryz.prog 10 #[xVal hp cp sp gp dv tp, .string ⟨#[100, 105, 99, 116]⟩, .slice (some ⟨W.heap.size, 0, none⟩) 1 1] (W.alloc (Obj.cells #[.int .i64 3, .bool false, .int .i64 3, .int .i64 0, .int .i64 0, .string ⟨#[]⟩] 38)) fun r w' => r = .returned (.int .i64 0) ∧ TQ w hp cp sp KB (f 2) w') := hid' (by rw [hf]; exact fun hp cp sp gp tp dv KB W => de_1 hs hv hu hp cp sp gp tp dv KB W)
    have D3 : Hid (∀ hp cp sp gp tp dv KB W, TQ w hp cp sp KB (f 3) W → Calls Tryz.prog 10 #[xVal hp cp sp gp dv tp, .string ⟨#[98, 101, 103, 105, 110]⟩, .slice (some ⟨W.heap.size, 0, none⟩) 1 1] (W.alloc (Obj.cells #[.int .i64 10, .bool false, .int .i64 2, .int .i64 0, .int .i64 0, .string ⟨#[]⟩] 38)) fun r w' => r = .returned (.int .i64 0) ∧ TQ w hp cp sp KB (f 4) w') := hid' (by rw [hf]; exact fun hp cp sp gp tp dv KB W => de_3 hs hv hu hp cp sp gp tp dv KB W)
    have D4 : Hid (∀ hp cp sp gp tp dv KB W, TQ w hp cp sp KB (f 4) W → Calls Tryz.prog 10 #[xVal hp cp sp gp dv tp, .string ⟨#[100, 101, 102]⟩, .slice (some ⟨W.heap.size, 0, none⟩) 2 2] (W.alloc (Obj.cells #[.int .i64 5, .bool false, .int .i64 0, .int .i64 0, .int .i64 0, .string s, .int .i64 3, .bool false, .int .i64 u, .int .i64 0, .int .i64 0, .string ⟨#[]⟩] 38)) fun r w' => r = .returned (.int .i64 0) ∧ TQ w hp cp sp KB (f 5) w') := hid' (by rw [hf]; exact fun hp cp sp gp tp dv KB W => de_4d hs hv hu hp cp sp gp tp dv KB W)
    have D5 : Hid (∀ hp cp sp gp tp dv KB W, TQ w hp cp sp KB (f 5) W → Calls Tryz.prog 10 #[xVal hp cp sp gp dv tp, .string ⟨#[108, 111, 97, 100]⟩, .slice (some ⟨W.heap.size, 0, none⟩) 1 1] (W.alloc (Obj.cells #[.int .i64 5, .bool false, .int .i64 0, .int .i64 0, .int .i64 0, .string s] 38)) fun r w' => r = .returned (.int .i64 0) ∧ TQ w hp cp sp KB (f 6) w') := hid' (by rw [hf]; exact fun hp cp sp gp tp dv KB W => de_5 hs hv hu hD hp cp sp gp tp dv KB W)
    have D7 : Hid (∀ hp cp sp gp tp dv KB W, TQ w hp cp sp KB (f 7) W → Calls Tryz.prog 10 #[xVal hp cp sp gp dv tp, .string ⟨#[119, 104, 101, 114, 101]⟩, .slice (some ⟨W.heap.size, 0, none⟩) 1 1] (W.alloc (Obj.cells #[.int .i64 5, .bool false, .int .i64 0, .int .i64 0, .int .i64 0, .string s] 38)) fun r w' => r = .returned (.int .i64 0) ∧ TQ w hp cp sp KB (f 8) w') := hid' (by rw [hf]; exact fun hp cp sp gp tp dv KB W => de_7 hs hv hu hD hp cp sp gp tp dv KB W)
    have D10 : Hid (∀ hp cp sp gp tp dv KB W, TQ w hp cp sp KB (f 10) W → Calls Tryz.prog 10 #[xVal hp cp sp gp dv tp, .string ⟨#[107, 110, 111, 119, 110]⟩, .slice (some ⟨W.heap.size, 0, none⟩) 2 2] (W.alloc (Obj.cells #[.int .i64 10, .bool false, .int .i64 2, .int .i64 0, .int .i64 0, .string ⟨#[]⟩, .int .i64 5, .bool false, .int .i64 0, .int .i64 0, .int .i64 0, .string s] 38)) fun r w' => r = .returned (.int .i64 0) ∧ TQ w hp cp sp KB (f 11) w') := hid' (by rw [hf]; exact fun hp cp sp gp tp dv KB W => de_10 hs hv hu hD hp cp sp gp tp dv KB W)
    have D12 : Hid (∀ hp cp sp gp tp dv KB W, TQ w hp cp sp KB (f 12) W → Calls Tryz.prog 10 #[xVal hp cp sp gp dv tp, .string ⟨#[101, 110, 100]⟩, .slice none 0 0] W fun r w' => r = .returned (.int .i64 0) ∧ TQ w hp cp sp KB (f 13) w') := hid' (by rw [hf]; exact fun hp cp sp gp tp dv KB W => de_12 hp cp sp gp tp dv KB W)
    have D13 : Hid (∀ hp cp sp gp tp dv KB W, TQ w hp cp sp KB (f 13) W → Calls Tryz.prog 10 #[xVal hp cp sp gp dv tp, .string ⟨#[108, 111, 97, 100]⟩, .slice (some ⟨W.heap.size, 0, none⟩) 1 1] (W.alloc (Obj.cells #[.int .i64 5, .bool false, .int .i64 0, .int .i64 0, .int .i64 0, .string s] 38)) fun r w' => r = .returned (.int .i64 0) ∧ TQ w hp cp sp KB (f 14) w') := hid' (by rw [hf]; exact fun hp cp sp gp tp dv KB W => de_13 hs hv hu hD (may_iO _ (by omega) (by omega)) hp cp sp gp tp dv KB W)
    have D15 : Hid (∀ hp cp sp gp tp dv KB W, TQ w hp cp sp KB (f 15) W → Calls Tryz.prog 10 #[xVal hp cp sp gp dv tp, .string ⟨#[99, 111, 117, 110, 116, 100, 105, 99, 116, 115, 116, 97, 99, 107]⟩, .slice none 0 0] W fun r w' => r = .returned (.int .i64 0) ∧ TQ w hp cp sp KB (f 16) w') := hid' (by rw [hf]; exact fun hp cp sp gp tp dv KB W => de_15 hp cp sp gp tp dv KB W)
    have T2 : Hid (∀ hp cp sp gp tp dv KB W, TQ w hp cp sp KB (f 2) W → Calls Tryz.prog 13 #[xVal hp cp sp gp dv tp] W fun r w' => r = .returned (.agg #[.int .i64 10, .bool false, .int .i64 2, .int .i64 0, .int .i64 0, .string ⟨#[]⟩]) ∧ TQ w hp cp sp KB (f 3) w') := hid' (by rw [hf]; exact fun hp cp sp gp tp dv KB W S => TQ.top (dcn 2) rfl W S)
    have T6 : Hid (∀ hp cp sp gp tp dv KB W, TQ w hp cp sp KB (f 6) W → Calls Tryz.prog 13 #[xVal hp cp sp gp dv tp] W fun r w' => r = .returned (.agg #[.int .i64 3, .bool false, .int .i64 u, .int .i64 0, .int .i64 0, .string ⟨#[]⟩]) ∧ TQ w hp cp sp KB (f 7) w') := hid' (by rw [hf]; exact fun hp cp sp gp tp dv KB W S => TQ.top (iO u) rfl W S)
    have T8 : Hid (∀ hp cp sp gp tp dv KB W, TQ w hp cp sp KB (f 8) W → Calls Tryz.prog 13 #[xVal hp cp sp gp dv tp] W fun r w' => r = .returned (.agg #[.int .i64 2, .bool false, .int .i64 1, .int .i64 0, .int .i64 0, .string ⟨#[]⟩]) ∧ TQ w hp cp sp KB (f 9) w') := hid' (by rw [hf]; exact fun hp cp sp gp tp dv KB W S => TQ.top (bO true) rfl W S)
    have T9 : Hid (∀ hp cp sp gp tp dv KB W, TQ w hp cp sp KB (f 9) W → Calls Tryz.prog 13 #[xVal hp cp sp gp dv tp] W fun r w' => r = .returned (.agg #[.int .i64 10, .bool false, .int .i64 2, .int .i64 0, .int .i64 0, .string ⟨#[]⟩]) ∧ TQ w hp cp sp KB (f 10) w') := hid' (by rw [hf]; exact fun hp cp sp gp tp dv KB W S => TQ.top (dcn 2) rfl W S)
    have T11 : Hid (∀ hp cp sp gp tp dv KB W, TQ w hp cp sp KB (f 11) W → Calls Tryz.prog 13 #[xVal hp cp sp gp dv tp] W fun r w' => r = .returned (.agg #[.int .i64 2, .bool false, .int .i64 1, .int .i64 0, .int .i64 0, .string ⟨#[]⟩]) ∧ TQ w hp cp sp KB (f 12) w') := hid' (by rw [hf]; exact fun hp cp sp gp tp dv KB W S => TQ.top (bO true) rfl W S)
    have T14 : Hid (∀ hp cp sp gp tp dv KB W, TQ w hp cp sp KB (f 14) W → Calls Tryz.prog 13 #[xVal hp cp sp gp dv tp] W fun r w' => r = .returned (.agg #[.int .i64 3, .bool false, .int .i64 v, .int .i64 0, .int .i64 0, .string ⟨#[]⟩]) ∧ TQ w hp cp sp KB (f 15) w') := hid' (by rw [hf]; exact fun hp cp sp gp tp dv KB W S => TQ.top (iO v) rfl W S)
    have T16 : Hid (∀ hp cp sp gp tp dv KB W, TQ w hp cp sp KB (f 16) W → Calls Tryz.prog 13 #[xVal hp cp sp gp dv tp] W fun r w' => r = .returned (.agg #[.int .i64 3, .bool false, .int .i64 2, .int .i64 0, .int .i64 0, .string ⟨#[]⟩]) ∧ TQ w hp cp sp KB (f 17) w') := hid' (by rw [hf]; exact fun hp cp sp gp tp dv KB W S => TQ.top (iO 2) rfl W S)
    have HLN : Hid (∀ hp cp sp KB W, TQ w hp cp sp KB (f 17) W → Calls Tryz.prog 14 #[ptr sp] W fun r w' => r = .returned (.int .i64 0) ∧ TQ w hp cp sp KB (f 17) w') := hid' (by rw [hf]; exact fun hp cp sp KB W S => TQ.len 0 rfl W S)
    have HF0 := hid' (congrFun hf 0)
    have c100 : ¬ (100 : Int) < s.size := by omega
    have vv := IntWalk.i64_in v (by omega)
    have vu := IntWalk.i64_in u (by omega)
    have qu : eqO ⟨3, false, u, 0, 0, ⟨#[]⟩⟩ ⟨3, false, u, 0, 0, ⟨#[]⟩⟩ = true := eqO_self _
    have qv : eqO ⟨3, false, v, 0, 0, ⟨#[]⟩⟩ ⟨3, false, v, 0, 0, ⟨#[]⟩⟩ = true := eqO_self _
    have q2 : eqO ⟨3, false, 2, 0, 0, ⟨#[]⟩⟩ ⟨3, false, 2, 0, 0, ⟨#[]⟩⟩ = true := eqO_self _
    have qd : eqO ⟨10, false, 2, 0, 0, ⟨#[]⟩⟩ ⟨10, false, 2, 0, 0, ⟨#[]⟩⟩ = true := eqO_self _
    clear hf hD hs
    go_enter Tryz.func3, Tryz.ntmps3
    go_wp2_with fail
    refine HKN.out.mono ?_
    rintro r w1 ⟨rfl, X1⟩
    go_wp2_with fail
    refine (HN.out _).mono ?_
    rintro r w2 ⟨rfl, X2⟩
    go_wp2_with fail
    refine (TQ.fresh w2 (X1.pure X2)).mono ?_
    rintro r w7 ⟨hp, cp, sp, gp, x, tp, rfl, S1⟩
    clear HKN HN X1 X2
    have S1 : TQ w hp cp sp [] (f 0) w7 := by rw [HF0.out]; exact S1
    clear HF0
    have S2 := S1.alloc (xBox hp cp sp gp (.pointer x) tp)
    generalize hg : w7.heap.size = g2 at *
    go_upto_region 9 with (fail)
    generalize hW : w7.alloc _ = w3 at *
    clear hW hg
    obtain ⟨K1, hK1⟩ : ∃ K', K' = (g2, xBox hp cp sp gp (.pointer x) tp) :: ([] : List (Nat × Obj)) := ⟨_, rfl⟩
    have nW : (g2, xBox hp cp sp gp (.pointer x) tp) ∈ K1 := by rw [hK1]; exact m0
    rw [← hK1] at S2
    clear hK1
    have CDO : Hid (∀ n nm k row W, TQ w hp cp sp K1 (f n) W → ((n = 0 ∧ nm = (⟨#[100, 101, 102]⟩ : ByteArray) ∧ k = 2 ∧ row = Obj.cells #[.int .i64 5, .bool false, .int .i64 0, .int .i64 0, .int .i64 0, .string s, .int .i64 3, .bool false, .int .i64 v, .int .i64 0, .int .i64 0, .string ⟨#[]⟩] 38) ∨ (n = 1 ∧ nm = ⟨#[100, 105, 99, 116]⟩ ∧ k = 1 ∧ row = Obj.cells #[.int .i64 3, .bool false, .int .i64 3, .int .i64 0, .int .i64 0, .string ⟨#[]⟩] 38)) →
      Calls Tryz.prog 10 #[xVal hp cp sp gp (.pointer x) tp, .string nm, .slice (some ⟨W.heap.size, 0, none⟩) k k] (W.alloc row) fun e w' => e = .returned (.int .i64 0) ∧ TQ w hp cp sp K1 (f (n + 1)) w') := hid' (fun n nm k row W S h => by
      rcases h with ⟨rfl, rfl, rfl, rfl⟩ | ⟨rfl, rfl, rfl, rfl⟩
      · exact D0.out _ _ _ _ _ _ _ _ S
      · exact D1.out _ _ _ _ _ _ _ _ S)
    clear D0 D1 S1
    have Q_nW := TQ.cells (w0 := w) (hp := hp) (cp := cp) (sp := sp) (f := f) nW
    have l_nW := blk_lt (S2.box _ nW)
    simp only at l_nW
    have hS1 : ∃ n, TQ w hp cp sp K1 (f n) _ := ⟨_, S2⟩
    have HDR := hid' (fun n W (h : TQ w hp cp sp K1 (f n) W) => h.drew)
    have HGR := hid' (fun n W o (h : TQ w hp cp sp K1 (f n) W) => h.grow o)
    have HNU : Hid (∀ n v W, TQ w hp cp sp K1 (f n) W → Calls Tryz.prog 12 #[.int .i64 v] W fun e w' => e = .returned (iO v).val ∧ TQ w hp cp sp K1 (f n) w') := hid' (fun n v => TQ.num v)
    have HNA : Hid (∀ n s W, TQ w hp cp sp K1 (f n) W → Calls Tryz.prog 11 #[.string s] W fun e w' => e = .returned (nameO s).val ∧ TQ w hp cp sp K1 (f n) w') := hid' (fun n s => TQ.name s)
    go_region_held3 (fun W' => ∃ n, TQ w hp cp sp K1 (f n) W') (first | (with_reducible assumption) | (with_reducible exact ⟨_, by with_reducible assumption⟩) | (with_reducible exact ⟨_, HDR.out _ _ (by with_reducible assumption)⟩) | (with_reducible exact ⟨_, HGR.out _ _ _ (by with_reducible assumption)⟩))
      (first
        | (go_at_call 12; refine (HNU.out _ _ _ (by first | with_reducible assumption | (with_reducible exact HDR.out _ _ (by with_reducible assumption)))).mono ?_; rintro r w7 ⟨rfl, S6⟩)
        | (go_at_call 11; refine (HNA.out _ _ _ (by first | with_reducible assumption | (with_reducible exact HDR.out _ _ (by with_reducible assumption)))).mono ?_; rintro r w7 ⟨rfl, S6⟩)
        | (go_at_call 10; refine (CDO.out _ _ _ _ _ S6 (by first | (with_reducible exact .inl ⟨rfl, rfl, rfl, rfl⟩) | (with_reducible exact .inr ⟨rfl, rfl, rfl, rfl⟩))).mono ?_; rintro r w7 ⟨rfl, S6⟩))
    clear hS1 HDR HGR HNU HNA Q_nW l_nW
    clear CDO
    go_upto_region 11 with (fail)
    (try clear Rw); (try clear yw); (try clear Zw)
    have Rw := cells_of (S6.box _ nW)
    have yw := blk_lt (S6.box _ nW)
    (try simp only at Rw yw)
    go_wp2_with fail
    refine (T2.out _ _ _ _ _ _ _ _ S6).mono ?_
    rintro r w8 ⟨rfl, S8⟩
    clear Rw yw T2 S2 S6
    (try clear Rw); (try clear yw); (try clear Zw)
    have Rw := cells_of (S8.box _ nW)
    have yw := blk_lt (S8.box _ nW)
    (try simp only at Rw yw)
    have S9 := S8.alloc (Obj.cells #[.int .i64 10, .bool false, .int .i64 2, .int .i64 0, .int .i64 0, .string ⟨#[]⟩] 38)
    generalize hg : w8.heap.size = gd at *
    go_upto_region 12 with (fail)
    generalize hW : w8.alloc _ = w3 at *
    clear hW hg
    obtain ⟨K2, hK2⟩ : ∃ K', K' = (gd, Obj.cells #[.int .i64 10, .bool false, .int .i64 2, .int .i64 0, .int .i64 0, .string ⟨#[]⟩] 38) :: K1 := ⟨_, rfl⟩
    have nd : (gd, Obj.cells #[.int .i64 10, .bool false, .int .i64 2, .int .i64 0, .int .i64 0, .string ⟨#[]⟩] 38) ∈ K2 := by rw [hK2]; exact m0
    have nW : (g2, xBox hp cp sp gp (.pointer x) tp) ∈ K2 := by rw [hK2]; exact List.mem_cons_of_mem _ nW
    rw [← hK2] at S9
    clear hK2
    clear Rw yw S8
    (try clear Rw); (try clear yw); (try clear Zw)
    have Rw := cells_of (S9.box _ nW)
    have yw := blk_lt (S9.box _ nW)
    (try clear Rd); (try clear yd); (try clear Zd)
    have Rd := cells_of (S9.box _ nd)
    have yd := blk_lt (S9.box _ nd)
    (try simp only at Rw yw Rd yd)
    go_wp2_with fail
    refine (D3.out _ _ _ _ _ _ _ _ S9).mono ?_
    rintro r w9 ⟨rfl, S10⟩
    clear D3 Rw yw Rd yd S9
    go_upto_region 17 with (fail)
    have Q_nW := TQ.cells (w0 := w) (hp := hp) (cp := cp) (sp := sp) (f := f) nW
    have l_nW := blk_lt (S10.box _ nW)
    simp only at l_nW
    have hS1 : ∃ n, TQ w hp cp sp K2 (f n) _ := ⟨_, S10⟩
    have HDR := hid' (fun n W (h : TQ w hp cp sp K2 (f n) W) => h.drew)
    have HGR := hid' (fun n W o (h : TQ w hp cp sp K2 (f n) W) => h.grow o)
    have HNU : Hid (∀ n v W, TQ w hp cp sp K2 (f n) W → Calls Tryz.prog 12 #[.int .i64 v] W fun e w' => e = .returned (iO v).val ∧ TQ w hp cp sp K2 (f n) w') := hid' (fun n v => TQ.num v)
    have HNA : Hid (∀ n s W, TQ w hp cp sp K2 (f n) W → Calls Tryz.prog 11 #[.string s] W fun e w' => e = .returned (nameO s).val ∧ TQ w hp cp sp K2 (f n) w') := hid' (fun n s => TQ.name s)
    go_region_held3 (fun W' => ∃ n, TQ w hp cp sp K2 (f n) W') (first | (with_reducible assumption) | (with_reducible exact ⟨_, by with_reducible assumption⟩) | (with_reducible exact ⟨_, HDR.out _ _ (by with_reducible assumption)⟩) | (with_reducible exact ⟨_, HGR.out _ _ _ (by with_reducible assumption)⟩))
      (first
        | (go_at_call 12; refine (HNU.out _ _ _ (by first | with_reducible assumption | (with_reducible exact HDR.out _ _ (by with_reducible assumption)))).mono ?_; rintro r w7 ⟨rfl, S6⟩)
        | (go_at_call 11; refine (HNA.out _ _ _ (by first | with_reducible assumption | (with_reducible exact HDR.out _ _ (by with_reducible assumption)))).mono ?_; rintro r w7 ⟨rfl, S6⟩)
        | (go_at_call 10; refine (D4.out _ _ _ _ _ _ _ _ (by first | with_reducible assumption | (with_reducible exact HDR.out _ _ (by with_reducible assumption)))).mono ?_; rintro r w7 ⟨rfl, S6⟩))
    clear hS1 HDR HGR HNU HNA Q_nW l_nW
    clear S10 D4
    go_upto_region 18 with (fail)
    have S10 := S6
    clear S6
    have Q_nW := TQ.cells (w0 := w) (hp := hp) (cp := cp) (sp := sp) (f := f) nW
    have l_nW := blk_lt (S10.box _ nW)
    simp only at l_nW
    have hS1 : ∃ n, TQ w hp cp sp K2 (f n) _ := ⟨_, S10⟩
    have HDR := hid' (fun n W (h : TQ w hp cp sp K2 (f n) W) => h.drew)
    have HGR := hid' (fun n W o (h : TQ w hp cp sp K2 (f n) W) => h.grow o)
    have HNU : Hid (∀ n v W, TQ w hp cp sp K2 (f n) W → Calls Tryz.prog 12 #[.int .i64 v] W fun e w' => e = .returned (iO v).val ∧ TQ w hp cp sp K2 (f n) w') := hid' (fun n v => TQ.num v)
    have HNA : Hid (∀ n s W, TQ w hp cp sp K2 (f n) W → Calls Tryz.prog 11 #[.string s] W fun e w' => e = .returned (nameO s).val ∧ TQ w hp cp sp K2 (f n) w') := hid' (fun n s => TQ.name s)
    go_region_held3 (fun W' => ∃ n, TQ w hp cp sp K2 (f n) W') (first | (with_reducible assumption) | (with_reducible exact ⟨_, by with_reducible assumption⟩) | (with_reducible exact ⟨_, HDR.out _ _ (by with_reducible assumption)⟩) | (with_reducible exact ⟨_, HGR.out _ _ _ (by with_reducible assumption)⟩))
      (first
        | (go_at_call 12; refine (HNU.out _ _ _ (by first | with_reducible assumption | (with_reducible exact HDR.out _ _ (by with_reducible assumption)))).mono ?_; rintro r w7 ⟨rfl, S6⟩)
        | (go_at_call 11; refine (HNA.out _ _ _ (by first | with_reducible assumption | (with_reducible exact HDR.out _ _ (by with_reducible assumption)))).mono ?_; rintro r w7 ⟨rfl, S6⟩)
        | (go_at_call 10; refine (D5.out _ _ _ _ _ _ _ _ (by first | with_reducible assumption | (with_reducible exact HDR.out _ _ (by with_reducible assumption)))).mono ?_; rintro r w7 ⟨rfl, S6⟩))
    clear hS1 HDR HGR HNU HNA Q_nW l_nW
    clear S10 D5
    go_upto_region 19 with (fail)
    (try clear Rw); (try clear yw); (try clear Zw)
    have Rw := cells_of (S6.box _ nW)
    have yw := blk_lt (S6.box _ nW)
    (try simp only at Rw yw)
    go_wp2_with fail
    refine (T6.out _ _ _ _ _ _ _ _ S6).mono ?_
    rintro r w8 ⟨rfl, S8⟩
    clear Rw yw T6 S6
    have S9 := S8.alloc (Obj.cells #[.int .i64 3, .bool false, .int .i64 u, .int .i64 0, .int .i64 0, .string ⟨#[]⟩] 38)
    generalize hg : w8.heap.size = gx at *
    go_upto_region 20 with (fail)
    generalize hW : w8.alloc _ = w3 at *
    clear hW hg
    obtain ⟨K3, hK3⟩ : ∃ K', K' = (gx, Obj.cells #[.int .i64 3, .bool false, .int .i64 u, .int .i64 0, .int .i64 0, .string ⟨#[]⟩] 38) :: K2 := ⟨_, rfl⟩
    have nx : (gx, Obj.cells #[.int .i64 3, .bool false, .int .i64 u, .int .i64 0, .int .i64 0, .string ⟨#[]⟩] 38) ∈ K3 := by rw [hK3]; exact m0
    have nW : (g2, xBox hp cp sp gp (.pointer x) tp) ∈ K3 := by rw [hK3]; exact List.mem_cons_of_mem _ nW
    have nd : (gd, Obj.cells #[.int .i64 10, .bool false, .int .i64 2, .int .i64 0, .int .i64 0, .string ⟨#[]⟩] 38) ∈ K3 := by rw [hK3]; exact List.mem_cons_of_mem _ nd
    rw [← hK3] at S9
    clear hK3
    clear S8
    have Q_nW := TQ.cells (w0 := w) (hp := hp) (cp := cp) (sp := sp) (f := f) nW
    have l_nW := blk_lt (S9.box _ nW)
    simp only at l_nW
    have hS1 : ∃ n, TQ w hp cp sp K3 (f n) _ := ⟨_, S9⟩
    have HDR := hid' (fun n W (h : TQ w hp cp sp K3 (f n) W) => h.drew)
    have HGR := hid' (fun n W o (h : TQ w hp cp sp K3 (f n) W) => h.grow o)
    have HNU : Hid (∀ n v W, TQ w hp cp sp K3 (f n) W → Calls Tryz.prog 12 #[.int .i64 v] W fun e w' => e = .returned (iO v).val ∧ TQ w hp cp sp K3 (f n) w') := hid' (fun n v => TQ.num v)
    have HNA : Hid (∀ n s W, TQ w hp cp sp K3 (f n) W → Calls Tryz.prog 11 #[.string s] W fun e w' => e = .returned (nameO s).val ∧ TQ w hp cp sp K3 (f n) w') := hid' (fun n s => TQ.name s)
    go_region_held3 (fun W' => ∃ n, TQ w hp cp sp K3 (f n) W') (first | (with_reducible assumption) | (with_reducible exact ⟨_, by with_reducible assumption⟩) | (with_reducible exact ⟨_, HDR.out _ _ (by with_reducible assumption)⟩) | (with_reducible exact ⟨_, HGR.out _ _ _ (by with_reducible assumption)⟩))
      (first
        | (go_at_call 12; refine (HNU.out _ _ _ (by first | with_reducible assumption | (with_reducible exact HDR.out _ _ (by with_reducible assumption)))).mono ?_; rintro r w7 ⟨rfl, S6⟩)
        | (go_at_call 11; refine (HNA.out _ _ _ (by first | with_reducible assumption | (with_reducible exact HDR.out _ _ (by with_reducible assumption)))).mono ?_; rintro r w7 ⟨rfl, S6⟩)
        | (go_at_call 10; refine (D7.out _ _ _ _ _ _ _ _ (by first | with_reducible assumption | (with_reducible exact HDR.out _ _ (by with_reducible assumption)))).mono ?_; rintro r w7 ⟨rfl, S6⟩))
    clear hS1 HDR HGR HNU HNA Q_nW l_nW
    clear S9 D7
    go_upto_region 21 with (fail)
    go_cut [18, 19] (fun s1 s2 wx => LCQ w hp cp sp K3 (f 10) ⟨2, false, 1, 0, 0, ⟨#[]⟩⟩ ⟨10, false, 2, 0, 0, ⟨#[]⟩⟩ s1 s2 wx)
    case first =>
      refine npt_then (two_tops _ (by kernel_rfl) S6 nW (hid' (fun KB W => T8.out hp cp sp gp tp (.pointer x) KB W)) (hid' (fun KB W => T9.out hp cp sp gp tp (.pointer x) KB W)) _ ?_)
      intro s18 s19 u87 u88 u89 u90 wx hLC
      go_wp2_with fail
      go_meet
      exact hLC
    case rest =>
    obtain ⟨ga, gb, rfl, rfl, S11⟩ := hcut
    clear S6 T8 T9
    generalize wc = w7 at *
    have S11 : TQ w hp cp sp ((ga, Obj.cells #[.int .i64 2, .bool false, .int .i64 1, .int .i64 0, .int .i64 0, .string ⟨#[]⟩] 38) :: (gb, Obj.cells #[.int .i64 10, .bool false, .int .i64 2, .int .i64 0, .int .i64 0, .string ⟨#[]⟩] 38) :: K3) (f 10) w7 := S11
    obtain ⟨K4, hK4⟩ : ∃ K', K' = (ga, Obj.cells #[.int .i64 2, .bool false, .int .i64 1, .int .i64 0, .int .i64 0, .string ⟨#[]⟩] 38) :: (gb, Obj.cells #[.int .i64 10, .bool false, .int .i64 2, .int .i64 0, .int .i64 0, .string ⟨#[]⟩] 38) :: K3 := ⟨_, rfl⟩
    have ny : (ga, Obj.cells #[.int .i64 2, .bool false, .int .i64 1, .int .i64 0, .int .i64 0, .string ⟨#[]⟩] 38) ∈ K4 := by rw [hK4]; exact m0
    have nt : (gb, Obj.cells #[.int .i64 10, .bool false, .int .i64 2, .int .i64 0, .int .i64 0, .string ⟨#[]⟩] 38) ∈ K4 := by rw [hK4]; exact m1
    have nW : (g2, xBox hp cp sp gp (.pointer x) tp) ∈ K4 := by rw [hK4]; exact List.mem_cons_of_mem _ (List.mem_cons_of_mem _ nW)
    have nd : (gd, Obj.cells #[.int .i64 10, .bool false, .int .i64 2, .int .i64 0, .int .i64 0, .string ⟨#[]⟩] 38) ∈ K4 := by rw [hK4]; exact List.mem_cons_of_mem _ (List.mem_cons_of_mem _ nd)
    have nx : (gx, Obj.cells #[.int .i64 3, .bool false, .int .i64 u, .int .i64 0, .int .i64 0, .string ⟨#[]⟩] 38) ∈ K4 := by rw [hK4]; exact List.mem_cons_of_mem _ (List.mem_cons_of_mem _ nx)
    rw [← hK4] at S11
    clear hK4
    go_upto_region 22 with (fail)
    have Q_nW := TQ.cells (w0 := w) (hp := hp) (cp := cp) (sp := sp) (f := f) nW
    have l_nW := blk_lt (S11.box _ nW)
    simp only at l_nW
    have Q_nd := TQ.cells (w0 := w) (hp := hp) (cp := cp) (sp := sp) (f := f) nd
    have l_nd := blk_lt (S11.box _ nd)
    simp only at l_nd
    have hS1 : ∃ n, TQ w hp cp sp K4 (f n) _ := ⟨_, S11⟩
    have HDR := hid' (fun n W (h : TQ w hp cp sp K4 (f n) W) => h.drew)
    have HGR := hid' (fun n W o (h : TQ w hp cp sp K4 (f n) W) => h.grow o)
    have HNU : Hid (∀ n v W, TQ w hp cp sp K4 (f n) W → Calls Tryz.prog 12 #[.int .i64 v] W fun e w' => e = .returned (iO v).val ∧ TQ w hp cp sp K4 (f n) w') := hid' (fun n v => TQ.num v)
    have HNA : Hid (∀ n s W, TQ w hp cp sp K4 (f n) W → Calls Tryz.prog 11 #[.string s] W fun e w' => e = .returned (nameO s).val ∧ TQ w hp cp sp K4 (f n) w') := hid' (fun n s => TQ.name s)
    go_region_held3 (fun W' => ∃ n, TQ w hp cp sp K4 (f n) W') (first | (with_reducible assumption) | (with_reducible exact ⟨_, by with_reducible assumption⟩) | (with_reducible exact ⟨_, HDR.out _ _ (by with_reducible assumption)⟩) | (with_reducible exact ⟨_, HGR.out _ _ _ (by with_reducible assumption)⟩))
      (first
        | (go_at_call 12; refine (HNU.out _ _ _ (by first | with_reducible assumption | (with_reducible exact HDR.out _ _ (by with_reducible assumption)))).mono ?_; rintro r w7 ⟨rfl, S6⟩)
        | (go_at_call 11; refine (HNA.out _ _ _ (by first | with_reducible assumption | (with_reducible exact HDR.out _ _ (by with_reducible assumption)))).mono ?_; rintro r w7 ⟨rfl, S6⟩)
        | (go_at_call 10; refine (D10.out _ _ _ _ _ _ _ _ (by first | with_reducible assumption | (with_reducible exact HDR.out _ _ (by with_reducible assumption)))).mono ?_; rintro r w7 ⟨rfl, S6⟩))
    clear hS1 HDR HGR HNU HNA Q_nW l_nW Q_nd l_nd
    clear S11 D10
    go_upto_region 23 with (fail)
    (try clear Rw); (try clear yw); (try clear Zw)
    have Rw := cells_of (S6.box _ nW)
    have yw := blk_lt (S6.box _ nW)
    (try simp only at Rw yw)
    go_wp2_with fail
    refine (T11.out _ _ _ _ _ _ _ _ S6).mono ?_
    rintro r w8 ⟨rfl, S8⟩
    clear Rw yw T11 S6
    have S9 := S8.alloc (Obj.cells #[.int .i64 2, .bool false, .int .i64 1, .int .i64 0, .int .i64 0, .string ⟨#[]⟩] 38)
    generalize hg : w8.heap.size = go at *
    go_upto_region 24 with (fail)
    generalize hW : w8.alloc _ = w3 at *
    clear hW hg
    obtain ⟨K5, hK5⟩ : ∃ K', K' = (go, Obj.cells #[.int .i64 2, .bool false, .int .i64 1, .int .i64 0, .int .i64 0, .string ⟨#[]⟩] 38) :: K4 := ⟨_, rfl⟩
    have no : (go, Obj.cells #[.int .i64 2, .bool false, .int .i64 1, .int .i64 0, .int .i64 0, .string ⟨#[]⟩] 38) ∈ K5 := by rw [hK5]; exact m0
    have ny : (ga, Obj.cells #[.int .i64 2, .bool false, .int .i64 1, .int .i64 0, .int .i64 0, .string ⟨#[]⟩] 38) ∈ K5 := by rw [hK5]; exact List.mem_cons_of_mem _ ny
    have nt : (gb, Obj.cells #[.int .i64 10, .bool false, .int .i64 2, .int .i64 0, .int .i64 0, .string ⟨#[]⟩] 38) ∈ K5 := by rw [hK5]; exact List.mem_cons_of_mem _ nt
    have nW : (g2, xBox hp cp sp gp (.pointer x) tp) ∈ K5 := by rw [hK5]; exact List.mem_cons_of_mem _ nW
    have nd : (gd, Obj.cells #[.int .i64 10, .bool false, .int .i64 2, .int .i64 0, .int .i64 0, .string ⟨#[]⟩] 38) ∈ K5 := by rw [hK5]; exact List.mem_cons_of_mem _ nd
    have nx : (gx, Obj.cells #[.int .i64 3, .bool false, .int .i64 u, .int .i64 0, .int .i64 0, .string ⟨#[]⟩] 38) ∈ K5 := by rw [hK5]; exact List.mem_cons_of_mem _ nx
    rw [← hK5] at S9
    clear hK5
    clear S8
    (try clear Rw); (try clear yw); (try clear Zw)
    have Rw := cells_of (S9.box _ nW)
    have yw := blk_lt (S9.box _ nW)
    (try simp only at Rw yw)
    go_wp2_with fail
    refine (D12.out _ _ _ _ _ _ _ _ S9).mono ?_
    rintro r w9 ⟨rfl, S10⟩
    clear D12 Rw yw S9
    go_upto_region 25 with (fail)
    have Q_nW := TQ.cells (w0 := w) (hp := hp) (cp := cp) (sp := sp) (f := f) nW
    have l_nW := blk_lt (S10.box _ nW)
    simp only at l_nW
    have hS1 : ∃ n, TQ w hp cp sp K5 (f n) _ := ⟨_, S10⟩
    have HDR := hid' (fun n W (h : TQ w hp cp sp K5 (f n) W) => h.drew)
    have HGR := hid' (fun n W o (h : TQ w hp cp sp K5 (f n) W) => h.grow o)
    have HNU : Hid (∀ n v W, TQ w hp cp sp K5 (f n) W → Calls Tryz.prog 12 #[.int .i64 v] W fun e w' => e = .returned (iO v).val ∧ TQ w hp cp sp K5 (f n) w') := hid' (fun n v => TQ.num v)
    have HNA : Hid (∀ n s W, TQ w hp cp sp K5 (f n) W → Calls Tryz.prog 11 #[.string s] W fun e w' => e = .returned (nameO s).val ∧ TQ w hp cp sp K5 (f n) w') := hid' (fun n s => TQ.name s)
    go_region_held3 (fun W' => ∃ n, TQ w hp cp sp K5 (f n) W') (first | (with_reducible assumption) | (with_reducible exact ⟨_, by with_reducible assumption⟩) | (with_reducible exact ⟨_, HDR.out _ _ (by with_reducible assumption)⟩) | (with_reducible exact ⟨_, HGR.out _ _ _ (by with_reducible assumption)⟩))
      (first
        | (go_at_call 12; refine (HNU.out _ _ _ (by first | with_reducible assumption | (with_reducible exact HDR.out _ _ (by with_reducible assumption)))).mono ?_; rintro r w7 ⟨rfl, S6⟩)
        | (go_at_call 11; refine (HNA.out _ _ _ (by first | with_reducible assumption | (with_reducible exact HDR.out _ _ (by with_reducible assumption)))).mono ?_; rintro r w7 ⟨rfl, S6⟩)
        | (go_at_call 10; refine (D13.out _ _ _ _ _ _ _ _ (by first | with_reducible assumption | (with_reducible exact HDR.out _ _ (by with_reducible assumption)))).mono ?_; rintro r w7 ⟨rfl, S6⟩))
    clear hS1 HDR HGR HNU HNA Q_nW l_nW
    clear S10 D13
    go_upto_region 26 with (fail)
    (try clear Rw); (try clear yw); (try clear Zw)
    have Rw := cells_of (S6.box _ nW)
    have yw := blk_lt (S6.box _ nW)
    (try simp only at Rw yw)
    go_wp2_with fail
    refine (T14.out _ _ _ _ _ _ _ _ S6).mono ?_
    rintro r w8 ⟨rfl, S8⟩
    clear Rw yw T14 S6
    have S9 := S8.alloc (Obj.cells #[.int .i64 3, .bool false, .int .i64 v, .int .i64 0, .int .i64 0, .string ⟨#[]⟩] 38)
    generalize hg : w8.heap.size = gy at *
    go_upto_region 27 with (fail)
    generalize hW : w8.alloc _ = w3 at *
    clear hW hg
    obtain ⟨K6, hK6⟩ : ∃ K', K' = (gy, Obj.cells #[.int .i64 3, .bool false, .int .i64 v, .int .i64 0, .int .i64 0, .string ⟨#[]⟩] 38) :: K5 := ⟨_, rfl⟩
    have nyy : (gy, Obj.cells #[.int .i64 3, .bool false, .int .i64 v, .int .i64 0, .int .i64 0, .string ⟨#[]⟩] 38) ∈ K6 := by rw [hK6]; exact m0
    have no : (go, Obj.cells #[.int .i64 2, .bool false, .int .i64 1, .int .i64 0, .int .i64 0, .string ⟨#[]⟩] 38) ∈ K6 := by rw [hK6]; exact List.mem_cons_of_mem _ no
    have ny : (ga, Obj.cells #[.int .i64 2, .bool false, .int .i64 1, .int .i64 0, .int .i64 0, .string ⟨#[]⟩] 38) ∈ K6 := by rw [hK6]; exact List.mem_cons_of_mem _ ny
    have nt : (gb, Obj.cells #[.int .i64 10, .bool false, .int .i64 2, .int .i64 0, .int .i64 0, .string ⟨#[]⟩] 38) ∈ K6 := by rw [hK6]; exact List.mem_cons_of_mem _ nt
    have nW : (g2, xBox hp cp sp gp (.pointer x) tp) ∈ K6 := by rw [hK6]; exact List.mem_cons_of_mem _ nW
    have nd : (gd, Obj.cells #[.int .i64 10, .bool false, .int .i64 2, .int .i64 0, .int .i64 0, .string ⟨#[]⟩] 38) ∈ K6 := by rw [hK6]; exact List.mem_cons_of_mem _ nd
    have nx : (gx, Obj.cells #[.int .i64 3, .bool false, .int .i64 u, .int .i64 0, .int .i64 0, .string ⟨#[]⟩] 38) ∈ K6 := by rw [hK6]; exact List.mem_cons_of_mem _ nx
    rw [← hK6] at S9
    clear hK6
    clear S8
    (try clear Rw); (try clear yw); (try clear Zw)
    have Rw := cells_of (S9.box _ nW)
    have yw := blk_lt (S9.box _ nW)
    (try simp only at Rw yw)
    go_wp2_with fail
    refine (D15.out _ _ _ _ _ _ _ _ S9).mono ?_
    rintro r w9 ⟨rfl, S10⟩
    clear D15 Rw yw S9
    go_upto_region 28 with (fail)
    have Q_nW := TQ.cells (w0 := w) (hp := hp) (cp := cp) (sp := sp) (f := f) nW
    have l_nW := blk_lt (S10.box _ nW)
    simp only at l_nW
    have Q_nx := TQ.cells (w0 := w) (hp := hp) (cp := cp) (sp := sp) (f := f) nx
    have l_nx := blk_lt (S10.box _ nx)
    simp only at l_nx
    have Q_ny := TQ.cells (w0 := w) (hp := hp) (cp := cp) (sp := sp) (f := f) ny
    have l_ny := blk_lt (S10.box _ ny)
    simp only at l_ny
    have hS1 : ∃ n, TQ w hp cp sp K6 (f n) _ := ⟨_, S10⟩
    have HDR := hid' (fun n W (h : TQ w hp cp sp K6 (f n) W) => h.drew)
    have HGR := hid' (fun n W o (h : TQ w hp cp sp K6 (f n) W) => h.grow o)
    have HNU : Hid (∀ n v W, TQ w hp cp sp K6 (f n) W → Calls Tryz.prog 12 #[.int .i64 v] W fun e w' => e = .returned (iO v).val ∧ TQ w hp cp sp K6 (f n) w') := hid' (fun n v => TQ.num v)
    have HNA : Hid (∀ n s W, TQ w hp cp sp K6 (f n) W → Calls Tryz.prog 11 #[.string s] W fun e w' => e = .returned (nameO s).val ∧ TQ w hp cp sp K6 (f n) w') := hid' (fun n s => TQ.name s)
    go_region_held3 (fun W' => ∃ n, TQ w hp cp sp K6 (f n) W') (first | (with_reducible assumption) | (with_reducible exact ⟨_, by with_reducible assumption⟩) | (with_reducible exact ⟨_, HDR.out _ _ (by with_reducible assumption)⟩) | (with_reducible exact ⟨_, HGR.out _ _ _ (by with_reducible assumption)⟩))
      (first
        | (go_at_call 12; refine (HNU.out _ _ _ (by first | with_reducible assumption | (with_reducible exact HDR.out _ _ (by with_reducible assumption)))).mono ?_; rintro r w7 ⟨rfl, S6⟩)
        | (go_at_call 11; refine (HNA.out _ _ _ (by first | with_reducible assumption | (with_reducible exact HDR.out _ _ (by with_reducible assumption)))).mono ?_; rintro r w7 ⟨rfl, S6⟩)
        | (go_at_call 13; refine (T16.out _ _ _ _ _ _ _ _ (by first | with_reducible assumption | (with_reducible exact HDR.out _ _ (by with_reducible assumption)))).mono ?_; rintro r w7 ⟨rfl, S6⟩)
        | (go_at_call 14; refine (HLN.out _ _ _ _ _ (by first | with_reducible assumption | (with_reducible exact HDR.out _ _ (by with_reducible assumption)))).mono ?_; rintro r w7 ⟨rfl, S6⟩))
    clear hS1 HDR HGR HNU HNA Q_nW l_nW Q_nx l_nx Q_ny l_ny
    clear S10 T16 HLN
    go_upto_region 32 with (fail)
    have S10 := S6
    clear S6
    have Q_nyy := TQ.cells (w0 := w) (hp := hp) (cp := cp) (sp := sp) (f := f) nyy
    have l_nyy := blk_lt (S10.box _ nyy)
    simp only at l_nyy
    have Q_nt := TQ.cells (w0 := w) (hp := hp) (cp := cp) (sp := sp) (f := f) nt
    have l_nt := blk_lt (S10.box _ nt)
    simp only at l_nt
    have Q_no := TQ.cells (w0 := w) (hp := hp) (cp := cp) (sp := sp) (f := f) no
    have l_no := blk_lt (S10.box _ no)
    simp only at l_no
    have Q_nd := TQ.cells (w0 := w) (hp := hp) (cp := cp) (sp := sp) (f := f) nd
    have l_nd := blk_lt (S10.box _ nd)
    simp only at l_nd
    have hS1 : ∃ n, TQ w hp cp sp K6 (f n) _ := ⟨_, S10⟩
    have HDR := hid' (fun n W (h : TQ w hp cp sp K6 (f n) W) => h.drew)
    have HGR := hid' (fun n W o (h : TQ w hp cp sp K6 (f n) W) => h.grow o)
    have HNU : Hid (∀ n v W, TQ w hp cp sp K6 (f n) W → Calls Tryz.prog 12 #[.int .i64 v] W fun e w' => e = .returned (iO v).val ∧ TQ w hp cp sp K6 (f n) w') := hid' (fun n v => TQ.num v)
    have HNA : Hid (∀ n s W, TQ w hp cp sp K6 (f n) W → Calls Tryz.prog 11 #[.string s] W fun e w' => e = .returned (nameO s).val ∧ TQ w hp cp sp K6 (f n) w') := hid' (fun n s => TQ.name s)
    go_region_held3 (fun W' => ∃ n, TQ w hp cp sp K6 (f n) W') (first | (with_reducible assumption) | (with_reducible exact ⟨_, by with_reducible assumption⟩) | (with_reducible exact ⟨_, HDR.out _ _ (by with_reducible assumption)⟩) | (with_reducible exact ⟨_, HGR.out _ _ _ (by with_reducible assumption)⟩))
      (first
        | (go_at_call 12; refine (HNU.out _ _ _ (by first | with_reducible assumption | (with_reducible exact HDR.out _ _ (by with_reducible assumption)))).mono ?_; rintro r w7 ⟨rfl, S6⟩)
        | (go_at_call 11; refine (HNA.out _ _ _ (by first | with_reducible assumption | (with_reducible exact HDR.out _ _ (by with_reducible assumption)))).mono ?_; rintro r w7 ⟨rfl, S6⟩))
    clear hS1 HDR HGR HNU HNA Q_nyy l_nyy Q_nt l_nt Q_no l_no Q_nd l_nd
    go_wp2_with fail
    go_ret
    exact ⟨rfl, S6.chg⟩
set_option maxRecDepth 100000 in
set_option maxHeartbeats 40000000 in
theorem tableDefines_store (s : ByteArray) (v u : Int) (hs : s.size ≤ 100) (hv : -32768 ≤ v ∧ v < 32768) (hu : -32768 ≤ u ∧ u < 32768) (hadd : (s.toList == [97, 100, 100]) = false) (HN : ∀ W, Calls Tryz.prog 8 #[.string s] W fun e w' => e = .returned (.tuple #[.int .i64 0, .bool false]) ∧ Chg NoB W w') (w : World) :
    Calls Tryz.prog 3 #[.string s, .int .i16 v, .int .i16 u, .bool true] w fun e w' => e = .returned (.bool true) ∧ Chg NoB w w' := by
    have HKN := hid' (known20_any w)
    have HN := hid' HN
    obtain ⟨f, hf⟩ : ∃ f, f = deF s (iO v) (iO u) (vQ s (iO u) []) 1 9 (iO u) := ⟨_, rfl⟩
    have hD := defQ_store s (iO v) (iO u)
    have D0 : Hid (∀ hp cp sp gp tp dv KB W, TQ w hp cp sp KB (f 0) W → Calls Tryz.prog 10 #[xVal hp cp sp gp dv tp, .string ⟨#[100, 101, 102]⟩, .slice (some ⟨W.heap.size, 0, none⟩) 2 2] (W.alloc (Obj.cells #[.int .i64 5, .bool false, .int .i64 0, .int .i64 0, .int .i64 0, .string s, .int .i64 3, .bool false, .int .i64 v, .int .i64 0, .int .i64 0, .string ⟨#[]⟩] 38)) fun r w' => r = .returned (.int .i64 0) ∧ TQ w hp cp sp KB (f 1) w') := hid' (by rw [hf]; exact fun hp cp sp gp tp dv KB W => de_0 hs hv hu hp cp sp gp tp dv KB W)
    have D1 : Hid (∀ hp cp sp gp tp dv KB W, TQ w hp cp sp KB (f 1) W → Calls Tryz.prog 10 #[xVal hp cp sp gp dv tp, .string ⟨#[100, 105, 99, 116]⟩, .slice (some ⟨W.heap.size, 0, none⟩) 1 1] (W.alloc (Obj.cells #[.int .i64 3, .bool false, .int .i64 3, .int .i64 0, .int .i64 0, .string ⟨#[]⟩] 38)) fun r w' => r = .returned (.int .i64 0) ∧ TQ w hp cp sp KB (f 2) w') := hid' (by rw [hf]; exact fun hp cp sp gp tp dv KB W => de_1 hs hv hu hp cp sp gp tp dv KB W)
    have D3 : Hid (∀ hp cp sp gp tp dv KB W, TQ w hp cp sp KB (f 3) W → Calls Tryz.prog 10 #[xVal hp cp sp gp dv tp, .string ⟨#[98, 101, 103, 105, 110]⟩, .slice (some ⟨W.heap.size, 0, none⟩) 1 1] (W.alloc (Obj.cells #[.int .i64 10, .bool false, .int .i64 2, .int .i64 0, .int .i64 0, .string ⟨#[]⟩] 38)) fun r w' => r = .returned (.int .i64 0) ∧ TQ w hp cp sp KB (f 4) w') := hid' (by rw [hf]; exact fun hp cp sp gp tp dv KB W => de_3 hs hv hu hp cp sp gp tp dv KB W)
    have D4 : Hid (∀ hp cp sp gp tp dv KB W, TQ w hp cp sp KB (f 4) W → Calls Tryz.prog 10 #[xVal hp cp sp gp dv tp, .string ⟨#[115, 116, 111, 114, 101]⟩, .slice (some ⟨W.heap.size, 0, none⟩) 2 2] (W.alloc (Obj.cells #[.int .i64 5, .bool false, .int .i64 0, .int .i64 0, .int .i64 0, .string s, .int .i64 3, .bool false, .int .i64 u, .int .i64 0, .int .i64 0, .string ⟨#[]⟩] 38)) fun r w' => r = .returned (.int .i64 0) ∧ TQ w hp cp sp KB (f 5) w') := hid' (by rw [hf]; exact fun hp cp sp gp tp dv KB W => de_4s hs hv hu hp cp sp gp tp dv KB W)
    have D5 : Hid (∀ hp cp sp gp tp dv KB W, TQ w hp cp sp KB (f 5) W → Calls Tryz.prog 10 #[xVal hp cp sp gp dv tp, .string ⟨#[108, 111, 97, 100]⟩, .slice (some ⟨W.heap.size, 0, none⟩) 1 1] (W.alloc (Obj.cells #[.int .i64 5, .bool false, .int .i64 0, .int .i64 0, .int .i64 0, .string s] 38)) fun r w' => r = .returned (.int .i64 0) ∧ TQ w hp cp sp KB (f 6) w') := hid' (by rw [hf]; exact fun hp cp sp gp tp dv KB W => de_5 hs hv hu hD hp cp sp gp tp dv KB W)
    have D7 : Hid (∀ hp cp sp gp tp dv KB W, TQ w hp cp sp KB (f 7) W → Calls Tryz.prog 10 #[xVal hp cp sp gp dv tp, .string ⟨#[119, 104, 101, 114, 101]⟩, .slice (some ⟨W.heap.size, 0, none⟩) 1 1] (W.alloc (Obj.cells #[.int .i64 5, .bool false, .int .i64 0, .int .i64 0, .int .i64 0, .string s] 38)) fun r w' => r = .returned (.int .i64 0) ∧ TQ w hp cp sp KB (f 8) w') := hid' (by rw [hf]; exact fun hp cp sp gp tp dv KB W => de_7 hs hv hu hD hp cp sp gp tp dv KB W)
    have D10 : Hid (∀ hp cp sp gp tp dv KB W, TQ w hp cp sp KB (f 10) W → Calls Tryz.prog 10 #[xVal hp cp sp gp dv tp, .string ⟨#[107, 110, 111, 119, 110]⟩, .slice (some ⟨W.heap.size, 0, none⟩) 2 2] (W.alloc (Obj.cells #[.int .i64 10, .bool false, .int .i64 2, .int .i64 0, .int .i64 0, .string ⟨#[]⟩, .int .i64 5, .bool false, .int .i64 0, .int .i64 0, .int .i64 0, .string s] 38)) fun r w' => r = .returned (.int .i64 0) ∧ TQ w hp cp sp KB (f 11) w') := hid' (by rw [hf]; exact fun hp cp sp gp tp dv KB W => de_10 hs hv hu hD hp cp sp gp tp dv KB W)
    have D12 : Hid (∀ hp cp sp gp tp dv KB W, TQ w hp cp sp KB (f 12) W → Calls Tryz.prog 10 #[xVal hp cp sp gp dv tp, .string ⟨#[101, 110, 100]⟩, .slice none 0 0] W fun r w' => r = .returned (.int .i64 0) ∧ TQ w hp cp sp KB (f 13) w') := hid' (by rw [hf]; exact fun hp cp sp gp tp dv KB W => de_12 hp cp sp gp tp dv KB W)
    have D13 : Hid (∀ hp cp sp gp tp dv KB W, TQ w hp cp sp KB (f 13) W → Calls Tryz.prog 10 #[xVal hp cp sp gp dv tp, .string ⟨#[108, 111, 97, 100]⟩, .slice (some ⟨W.heap.size, 0, none⟩) 1 1] (W.alloc (Obj.cells #[.int .i64 5, .bool false, .int .i64 0, .int .i64 0, .int .i64 0, .string s] 38)) fun r w' => r = .returned (.int .i64 0) ∧ TQ w hp cp sp KB (f 14) w') := hid' (by rw [hf]; exact fun hp cp sp gp tp dv KB W => de_13 hs hv hu hD (may_iO _ (by omega) (by omega)) hp cp sp gp tp dv KB W)
    have D15 : Hid (∀ hp cp sp gp tp dv KB W, TQ w hp cp sp KB (f 15) W → Calls Tryz.prog 10 #[xVal hp cp sp gp dv tp, .string ⟨#[99, 111, 117, 110, 116, 100, 105, 99, 116, 115, 116, 97, 99, 107]⟩, .slice none 0 0] W fun r w' => r = .returned (.int .i64 0) ∧ TQ w hp cp sp KB (f 16) w') := hid' (by rw [hf]; exact fun hp cp sp gp tp dv KB W => de_15 hp cp sp gp tp dv KB W)
    have T2 : Hid (∀ hp cp sp gp tp dv KB W, TQ w hp cp sp KB (f 2) W → Calls Tryz.prog 13 #[xVal hp cp sp gp dv tp] W fun r w' => r = .returned (.agg #[.int .i64 10, .bool false, .int .i64 2, .int .i64 0, .int .i64 0, .string ⟨#[]⟩]) ∧ TQ w hp cp sp KB (f 3) w') := hid' (by rw [hf]; exact fun hp cp sp gp tp dv KB W S => TQ.top (dcn 2) rfl W S)
    have T6 : Hid (∀ hp cp sp gp tp dv KB W, TQ w hp cp sp KB (f 6) W → Calls Tryz.prog 13 #[xVal hp cp sp gp dv tp] W fun r w' => r = .returned (.agg #[.int .i64 3, .bool false, .int .i64 u, .int .i64 0, .int .i64 0, .string ⟨#[]⟩]) ∧ TQ w hp cp sp KB (f 7) w') := hid' (by rw [hf]; exact fun hp cp sp gp tp dv KB W S => TQ.top (iO u) rfl W S)
    have T8 : Hid (∀ hp cp sp gp tp dv KB W, TQ w hp cp sp KB (f 8) W → Calls Tryz.prog 13 #[xVal hp cp sp gp dv tp] W fun r w' => r = .returned (.agg #[.int .i64 2, .bool false, .int .i64 1, .int .i64 0, .int .i64 0, .string ⟨#[]⟩]) ∧ TQ w hp cp sp KB (f 9) w') := hid' (by rw [hf]; exact fun hp cp sp gp tp dv KB W S => TQ.top (bO true) rfl W S)
    have T9 : Hid (∀ hp cp sp gp tp dv KB W, TQ w hp cp sp KB (f 9) W → Calls Tryz.prog 13 #[xVal hp cp sp gp dv tp] W fun r w' => r = .returned (.agg #[.int .i64 10, .bool false, .int .i64 1, .int .i64 0, .int .i64 0, .string ⟨#[]⟩]) ∧ TQ w hp cp sp KB (f 10) w') := hid' (by rw [hf]; exact fun hp cp sp gp tp dv KB W S => TQ.top (dcn 1) rfl W S)
    have T11 : Hid (∀ hp cp sp gp tp dv KB W, TQ w hp cp sp KB (f 11) W → Calls Tryz.prog 13 #[xVal hp cp sp gp dv tp] W fun r w' => r = .returned (.agg #[.int .i64 2, .bool false, .int .i64 0, .int .i64 0, .int .i64 0, .string ⟨#[]⟩]) ∧ TQ w hp cp sp KB (f 12) w') := hid' (by rw [hf]; exact fun hp cp sp gp tp dv KB W S => TQ.top (bO false) rfl W S)
    have T14 : Hid (∀ hp cp sp gp tp dv KB W, TQ w hp cp sp KB (f 14) W → Calls Tryz.prog 13 #[xVal hp cp sp gp dv tp] W fun r w' => r = .returned (.agg #[.int .i64 3, .bool false, .int .i64 u, .int .i64 0, .int .i64 0, .string ⟨#[]⟩]) ∧ TQ w hp cp sp KB (f 15) w') := hid' (by rw [hf]; exact fun hp cp sp gp tp dv KB W S => TQ.top (iO u) rfl W S)
    have T16 : Hid (∀ hp cp sp gp tp dv KB W, TQ w hp cp sp KB (f 16) W → Calls Tryz.prog 13 #[xVal hp cp sp gp dv tp] W fun r w' => r = .returned (.agg #[.int .i64 3, .bool false, .int .i64 2, .int .i64 0, .int .i64 0, .string ⟨#[]⟩]) ∧ TQ w hp cp sp KB (f 17) w') := hid' (by rw [hf]; exact fun hp cp sp gp tp dv KB W S => TQ.top (iO 2) rfl W S)
    have HLN : Hid (∀ hp cp sp KB W, TQ w hp cp sp KB (f 17) W → Calls Tryz.prog 14 #[ptr sp] W fun r w' => r = .returned (.int .i64 0) ∧ TQ w hp cp sp KB (f 17) w') := hid' (by rw [hf]; exact fun hp cp sp KB W S => TQ.len 0 rfl W S)
    have HF0 := hid' (congrFun hf 0)
    have c100 : ¬ (100 : Int) < s.size := by omega
    have vv := IntWalk.i64_in v (by omega)
    have vu := IntWalk.i64_in u (by omega)
    have qu : eqO ⟨3, false, u, 0, 0, ⟨#[]⟩⟩ ⟨3, false, u, 0, 0, ⟨#[]⟩⟩ = true := eqO_self _
    have qv : eqO ⟨3, false, v, 0, 0, ⟨#[]⟩⟩ ⟨3, false, v, 0, 0, ⟨#[]⟩⟩ = true := eqO_self _
    have q2 : eqO ⟨3, false, 2, 0, 0, ⟨#[]⟩⟩ ⟨3, false, 2, 0, 0, ⟨#[]⟩⟩ = true := eqO_self _
    have qd : eqO ⟨10, false, 2, 0, 0, ⟨#[]⟩⟩ ⟨10, false, 2, 0, 0, ⟨#[]⟩⟩ = true := eqO_self _
    clear hf hD hs
    go_enter Tryz.func3, Tryz.ntmps3
    go_wp2_with fail
    refine HKN.out.mono ?_
    rintro r w1 ⟨rfl, X1⟩
    go_wp2_with fail
    refine (HN.out _).mono ?_
    rintro r w2 ⟨rfl, X2⟩
    go_wp2_with fail
    refine (TQ.fresh w2 (X1.pure X2)).mono ?_
    rintro r w7 ⟨hp, cp, sp, gp, x, tp, rfl, S1⟩
    clear HKN HN X1 X2
    have S1 : TQ w hp cp sp [] (f 0) w7 := by rw [HF0.out]; exact S1
    clear HF0
    have S2 := S1.alloc (xBox hp cp sp gp (.pointer x) tp)
    generalize hg : w7.heap.size = g2 at *
    go_upto_region 9 with (fail)
    generalize hW : w7.alloc _ = w3 at *
    clear hW hg
    obtain ⟨K1, hK1⟩ : ∃ K', K' = (g2, xBox hp cp sp gp (.pointer x) tp) :: ([] : List (Nat × Obj)) := ⟨_, rfl⟩
    have nW : (g2, xBox hp cp sp gp (.pointer x) tp) ∈ K1 := by rw [hK1]; exact m0
    rw [← hK1] at S2
    clear hK1
    have CDO : Hid (∀ n nm k row W, TQ w hp cp sp K1 (f n) W → ((n = 0 ∧ nm = (⟨#[100, 101, 102]⟩ : ByteArray) ∧ k = 2 ∧ row = Obj.cells #[.int .i64 5, .bool false, .int .i64 0, .int .i64 0, .int .i64 0, .string s, .int .i64 3, .bool false, .int .i64 v, .int .i64 0, .int .i64 0, .string ⟨#[]⟩] 38) ∨ (n = 1 ∧ nm = ⟨#[100, 105, 99, 116]⟩ ∧ k = 1 ∧ row = Obj.cells #[.int .i64 3, .bool false, .int .i64 3, .int .i64 0, .int .i64 0, .string ⟨#[]⟩] 38)) →
      Calls Tryz.prog 10 #[xVal hp cp sp gp (.pointer x) tp, .string nm, .slice (some ⟨W.heap.size, 0, none⟩) k k] (W.alloc row) fun e w' => e = .returned (.int .i64 0) ∧ TQ w hp cp sp K1 (f (n + 1)) w') := hid' (fun n nm k row W S h => by
      rcases h with ⟨rfl, rfl, rfl, rfl⟩ | ⟨rfl, rfl, rfl, rfl⟩
      · exact D0.out _ _ _ _ _ _ _ _ S
      · exact D1.out _ _ _ _ _ _ _ _ S)
    clear D0 D1 S1
    have Q_nW := TQ.cells (w0 := w) (hp := hp) (cp := cp) (sp := sp) (f := f) nW
    have l_nW := blk_lt (S2.box _ nW)
    simp only at l_nW
    have hS1 : ∃ n, TQ w hp cp sp K1 (f n) _ := ⟨_, S2⟩
    have HDR := hid' (fun n W (h : TQ w hp cp sp K1 (f n) W) => h.drew)
    have HGR := hid' (fun n W o (h : TQ w hp cp sp K1 (f n) W) => h.grow o)
    have HNU : Hid (∀ n v W, TQ w hp cp sp K1 (f n) W → Calls Tryz.prog 12 #[.int .i64 v] W fun e w' => e = .returned (iO v).val ∧ TQ w hp cp sp K1 (f n) w') := hid' (fun n v => TQ.num v)
    have HNA : Hid (∀ n s W, TQ w hp cp sp K1 (f n) W → Calls Tryz.prog 11 #[.string s] W fun e w' => e = .returned (nameO s).val ∧ TQ w hp cp sp K1 (f n) w') := hid' (fun n s => TQ.name s)
    go_region_held3 (fun W' => ∃ n, TQ w hp cp sp K1 (f n) W') (first | (with_reducible assumption) | (with_reducible exact ⟨_, by with_reducible assumption⟩) | (with_reducible exact ⟨_, HDR.out _ _ (by with_reducible assumption)⟩) | (with_reducible exact ⟨_, HGR.out _ _ _ (by with_reducible assumption)⟩))
      (first
        | (go_at_call 12; refine (HNU.out _ _ _ (by first | with_reducible assumption | (with_reducible exact HDR.out _ _ (by with_reducible assumption)))).mono ?_; rintro r w7 ⟨rfl, S6⟩)
        | (go_at_call 11; refine (HNA.out _ _ _ (by first | with_reducible assumption | (with_reducible exact HDR.out _ _ (by with_reducible assumption)))).mono ?_; rintro r w7 ⟨rfl, S6⟩)
        | (go_at_call 10; refine (CDO.out _ _ _ _ _ S6 (by first | (with_reducible exact .inl ⟨rfl, rfl, rfl, rfl⟩) | (with_reducible exact .inr ⟨rfl, rfl, rfl, rfl⟩))).mono ?_; rintro r w7 ⟨rfl, S6⟩))
    clear hS1 HDR HGR HNU HNA Q_nW l_nW
    clear CDO
    go_upto_region 11 with (fail)
    (try clear Rw); (try clear yw); (try clear Zw)
    have Rw := cells_of (S6.box _ nW)
    have yw := blk_lt (S6.box _ nW)
    (try simp only at Rw yw)
    go_wp2_with fail
    refine (T2.out _ _ _ _ _ _ _ _ S6).mono ?_
    rintro r w8 ⟨rfl, S8⟩
    clear Rw yw T2 S2 S6
    (try clear Rw); (try clear yw); (try clear Zw)
    have Rw := cells_of (S8.box _ nW)
    have yw := blk_lt (S8.box _ nW)
    (try simp only at Rw yw)
    have S9 := S8.alloc (Obj.cells #[.int .i64 10, .bool false, .int .i64 2, .int .i64 0, .int .i64 0, .string ⟨#[]⟩] 38)
    generalize hg : w8.heap.size = gd at *
    go_upto_region 12 with (fail)
    generalize hW : w8.alloc _ = w3 at *
    clear hW hg
    obtain ⟨K2, hK2⟩ : ∃ K', K' = (gd, Obj.cells #[.int .i64 10, .bool false, .int .i64 2, .int .i64 0, .int .i64 0, .string ⟨#[]⟩] 38) :: K1 := ⟨_, rfl⟩
    have nd : (gd, Obj.cells #[.int .i64 10, .bool false, .int .i64 2, .int .i64 0, .int .i64 0, .string ⟨#[]⟩] 38) ∈ K2 := by rw [hK2]; exact m0
    have nW : (g2, xBox hp cp sp gp (.pointer x) tp) ∈ K2 := by rw [hK2]; exact List.mem_cons_of_mem _ nW
    rw [← hK2] at S9
    clear hK2
    clear Rw yw S8
    (try clear Rw); (try clear yw); (try clear Zw)
    have Rw := cells_of (S9.box _ nW)
    have yw := blk_lt (S9.box _ nW)
    (try clear Rd); (try clear yd); (try clear Zd)
    have Rd := cells_of (S9.box _ nd)
    have yd := blk_lt (S9.box _ nd)
    (try simp only at Rw yw Rd yd)
    go_wp2_with fail
    refine (D3.out _ _ _ _ _ _ _ _ S9).mono ?_
    rintro r w9 ⟨rfl, S10⟩
    clear D3 Rw yw Rd yd S9
    go_upto_region 17 with (fail)
    have Q_nW := TQ.cells (w0 := w) (hp := hp) (cp := cp) (sp := sp) (f := f) nW
    have l_nW := blk_lt (S10.box _ nW)
    simp only at l_nW
    have hS1 : ∃ n, TQ w hp cp sp K2 (f n) _ := ⟨_, S10⟩
    have HDR := hid' (fun n W (h : TQ w hp cp sp K2 (f n) W) => h.drew)
    have HGR := hid' (fun n W o (h : TQ w hp cp sp K2 (f n) W) => h.grow o)
    have HNU : Hid (∀ n v W, TQ w hp cp sp K2 (f n) W → Calls Tryz.prog 12 #[.int .i64 v] W fun e w' => e = .returned (iO v).val ∧ TQ w hp cp sp K2 (f n) w') := hid' (fun n v => TQ.num v)
    have HNA : Hid (∀ n s W, TQ w hp cp sp K2 (f n) W → Calls Tryz.prog 11 #[.string s] W fun e w' => e = .returned (nameO s).val ∧ TQ w hp cp sp K2 (f n) w') := hid' (fun n s => TQ.name s)
    go_region_held3 (fun W' => ∃ n, TQ w hp cp sp K2 (f n) W') (first | (with_reducible assumption) | (with_reducible exact ⟨_, by with_reducible assumption⟩) | (with_reducible exact ⟨_, HDR.out _ _ (by with_reducible assumption)⟩) | (with_reducible exact ⟨_, HGR.out _ _ _ (by with_reducible assumption)⟩))
      (first
        | (go_at_call 12; refine (HNU.out _ _ _ (by first | with_reducible assumption | (with_reducible exact HDR.out _ _ (by with_reducible assumption)))).mono ?_; rintro r w7 ⟨rfl, S6⟩)
        | (go_at_call 11; refine (HNA.out _ _ _ (by first | with_reducible assumption | (with_reducible exact HDR.out _ _ (by with_reducible assumption)))).mono ?_; rintro r w7 ⟨rfl, S6⟩)
        | (go_at_call 10; refine (D4.out _ _ _ _ _ _ _ _ (by first | with_reducible assumption | (with_reducible exact HDR.out _ _ (by with_reducible assumption)))).mono ?_; rintro r w7 ⟨rfl, S6⟩))
    clear hS1 HDR HGR HNU HNA Q_nW l_nW
    clear S10 D4
    go_upto_region 18 with (fail)
    have S10 := S6
    clear S6
    have Q_nW := TQ.cells (w0 := w) (hp := hp) (cp := cp) (sp := sp) (f := f) nW
    have l_nW := blk_lt (S10.box _ nW)
    simp only at l_nW
    have hS1 : ∃ n, TQ w hp cp sp K2 (f n) _ := ⟨_, S10⟩
    have HDR := hid' (fun n W (h : TQ w hp cp sp K2 (f n) W) => h.drew)
    have HGR := hid' (fun n W o (h : TQ w hp cp sp K2 (f n) W) => h.grow o)
    have HNU : Hid (∀ n v W, TQ w hp cp sp K2 (f n) W → Calls Tryz.prog 12 #[.int .i64 v] W fun e w' => e = .returned (iO v).val ∧ TQ w hp cp sp K2 (f n) w') := hid' (fun n v => TQ.num v)
    have HNA : Hid (∀ n s W, TQ w hp cp sp K2 (f n) W → Calls Tryz.prog 11 #[.string s] W fun e w' => e = .returned (nameO s).val ∧ TQ w hp cp sp K2 (f n) w') := hid' (fun n s => TQ.name s)
    go_region_held3 (fun W' => ∃ n, TQ w hp cp sp K2 (f n) W') (first | (with_reducible assumption) | (with_reducible exact ⟨_, by with_reducible assumption⟩) | (with_reducible exact ⟨_, HDR.out _ _ (by with_reducible assumption)⟩) | (with_reducible exact ⟨_, HGR.out _ _ _ (by with_reducible assumption)⟩))
      (first
        | (go_at_call 12; refine (HNU.out _ _ _ (by first | with_reducible assumption | (with_reducible exact HDR.out _ _ (by with_reducible assumption)))).mono ?_; rintro r w7 ⟨rfl, S6⟩)
        | (go_at_call 11; refine (HNA.out _ _ _ (by first | with_reducible assumption | (with_reducible exact HDR.out _ _ (by with_reducible assumption)))).mono ?_; rintro r w7 ⟨rfl, S6⟩)
        | (go_at_call 10; refine (D5.out _ _ _ _ _ _ _ _ (by first | with_reducible assumption | (with_reducible exact HDR.out _ _ (by with_reducible assumption)))).mono ?_; rintro r w7 ⟨rfl, S6⟩))
    clear hS1 HDR HGR HNU HNA Q_nW l_nW
    clear S10 D5
    go_upto_region 19 with (fail)
    (try clear Rw); (try clear yw); (try clear Zw)
    have Rw := cells_of (S6.box _ nW)
    have yw := blk_lt (S6.box _ nW)
    (try simp only at Rw yw)
    go_wp2_with fail
    refine (T6.out _ _ _ _ _ _ _ _ S6).mono ?_
    rintro r w8 ⟨rfl, S8⟩
    clear Rw yw T6 S6
    have S9 := S8.alloc (Obj.cells #[.int .i64 3, .bool false, .int .i64 u, .int .i64 0, .int .i64 0, .string ⟨#[]⟩] 38)
    generalize hg : w8.heap.size = gx at *
    go_upto_region 20 with (fail)
    generalize hW : w8.alloc _ = w3 at *
    clear hW hg
    obtain ⟨K3, hK3⟩ : ∃ K', K' = (gx, Obj.cells #[.int .i64 3, .bool false, .int .i64 u, .int .i64 0, .int .i64 0, .string ⟨#[]⟩] 38) :: K2 := ⟨_, rfl⟩
    have nx : (gx, Obj.cells #[.int .i64 3, .bool false, .int .i64 u, .int .i64 0, .int .i64 0, .string ⟨#[]⟩] 38) ∈ K3 := by rw [hK3]; exact m0
    have nW : (g2, xBox hp cp sp gp (.pointer x) tp) ∈ K3 := by rw [hK3]; exact List.mem_cons_of_mem _ nW
    have nd : (gd, Obj.cells #[.int .i64 10, .bool false, .int .i64 2, .int .i64 0, .int .i64 0, .string ⟨#[]⟩] 38) ∈ K3 := by rw [hK3]; exact List.mem_cons_of_mem _ nd
    rw [← hK3] at S9
    clear hK3
    clear S8
    have Q_nW := TQ.cells (w0 := w) (hp := hp) (cp := cp) (sp := sp) (f := f) nW
    have l_nW := blk_lt (S9.box _ nW)
    simp only at l_nW
    have hS1 : ∃ n, TQ w hp cp sp K3 (f n) _ := ⟨_, S9⟩
    have HDR := hid' (fun n W (h : TQ w hp cp sp K3 (f n) W) => h.drew)
    have HGR := hid' (fun n W o (h : TQ w hp cp sp K3 (f n) W) => h.grow o)
    have HNU : Hid (∀ n v W, TQ w hp cp sp K3 (f n) W → Calls Tryz.prog 12 #[.int .i64 v] W fun e w' => e = .returned (iO v).val ∧ TQ w hp cp sp K3 (f n) w') := hid' (fun n v => TQ.num v)
    have HNA : Hid (∀ n s W, TQ w hp cp sp K3 (f n) W → Calls Tryz.prog 11 #[.string s] W fun e w' => e = .returned (nameO s).val ∧ TQ w hp cp sp K3 (f n) w') := hid' (fun n s => TQ.name s)
    go_region_held3 (fun W' => ∃ n, TQ w hp cp sp K3 (f n) W') (first | (with_reducible assumption) | (with_reducible exact ⟨_, by with_reducible assumption⟩) | (with_reducible exact ⟨_, HDR.out _ _ (by with_reducible assumption)⟩) | (with_reducible exact ⟨_, HGR.out _ _ _ (by with_reducible assumption)⟩))
      (first
        | (go_at_call 12; refine (HNU.out _ _ _ (by first | with_reducible assumption | (with_reducible exact HDR.out _ _ (by with_reducible assumption)))).mono ?_; rintro r w7 ⟨rfl, S6⟩)
        | (go_at_call 11; refine (HNA.out _ _ _ (by first | with_reducible assumption | (with_reducible exact HDR.out _ _ (by with_reducible assumption)))).mono ?_; rintro r w7 ⟨rfl, S6⟩)
        | (go_at_call 10; refine (D7.out _ _ _ _ _ _ _ _ (by first | with_reducible assumption | (with_reducible exact HDR.out _ _ (by with_reducible assumption)))).mono ?_; rintro r w7 ⟨rfl, S6⟩))
    clear hS1 HDR HGR HNU HNA Q_nW l_nW
    clear S9 D7
    go_upto_region 21 with (fail)
    go_cut [18, 19] (fun s1 s2 wx => LCQ w hp cp sp K3 (f 10) ⟨2, false, 1, 0, 0, ⟨#[]⟩⟩ ⟨10, false, 1, 0, 0, ⟨#[]⟩⟩ s1 s2 wx)
    case first =>
      refine npt_then (two_tops _ (by kernel_rfl) S6 nW (hid' (fun KB W => T8.out hp cp sp gp tp (.pointer x) KB W)) (hid' (fun KB W => T9.out hp cp sp gp tp (.pointer x) KB W)) _ ?_)
      intro s18 s19 u87 u88 u89 u90 wx hLC
      go_wp2_with fail
      go_meet
      exact hLC
    case rest =>
    obtain ⟨ga, gb, rfl, rfl, S11⟩ := hcut
    clear S6 T8 T9
    generalize wc = w7 at *
    have S11 : TQ w hp cp sp ((ga, Obj.cells #[.int .i64 2, .bool false, .int .i64 1, .int .i64 0, .int .i64 0, .string ⟨#[]⟩] 38) :: (gb, Obj.cells #[.int .i64 10, .bool false, .int .i64 1, .int .i64 0, .int .i64 0, .string ⟨#[]⟩] 38) :: K3) (f 10) w7 := S11
    obtain ⟨K4, hK4⟩ : ∃ K', K' = (ga, Obj.cells #[.int .i64 2, .bool false, .int .i64 1, .int .i64 0, .int .i64 0, .string ⟨#[]⟩] 38) :: (gb, Obj.cells #[.int .i64 10, .bool false, .int .i64 1, .int .i64 0, .int .i64 0, .string ⟨#[]⟩] 38) :: K3 := ⟨_, rfl⟩
    have ny : (ga, Obj.cells #[.int .i64 2, .bool false, .int .i64 1, .int .i64 0, .int .i64 0, .string ⟨#[]⟩] 38) ∈ K4 := by rw [hK4]; exact m0
    have nt : (gb, Obj.cells #[.int .i64 10, .bool false, .int .i64 1, .int .i64 0, .int .i64 0, .string ⟨#[]⟩] 38) ∈ K4 := by rw [hK4]; exact m1
    have nW : (g2, xBox hp cp sp gp (.pointer x) tp) ∈ K4 := by rw [hK4]; exact List.mem_cons_of_mem _ (List.mem_cons_of_mem _ nW)
    have nd : (gd, Obj.cells #[.int .i64 10, .bool false, .int .i64 2, .int .i64 0, .int .i64 0, .string ⟨#[]⟩] 38) ∈ K4 := by rw [hK4]; exact List.mem_cons_of_mem _ (List.mem_cons_of_mem _ nd)
    have nx : (gx, Obj.cells #[.int .i64 3, .bool false, .int .i64 u, .int .i64 0, .int .i64 0, .string ⟨#[]⟩] 38) ∈ K4 := by rw [hK4]; exact List.mem_cons_of_mem _ (List.mem_cons_of_mem _ nx)
    rw [← hK4] at S11
    clear hK4
    go_upto_region 22 with (fail)
    have Q_nW := TQ.cells (w0 := w) (hp := hp) (cp := cp) (sp := sp) (f := f) nW
    have l_nW := blk_lt (S11.box _ nW)
    simp only at l_nW
    have Q_nd := TQ.cells (w0 := w) (hp := hp) (cp := cp) (sp := sp) (f := f) nd
    have l_nd := blk_lt (S11.box _ nd)
    simp only at l_nd
    have hS1 : ∃ n, TQ w hp cp sp K4 (f n) _ := ⟨_, S11⟩
    have HDR := hid' (fun n W (h : TQ w hp cp sp K4 (f n) W) => h.drew)
    have HGR := hid' (fun n W o (h : TQ w hp cp sp K4 (f n) W) => h.grow o)
    have HNU : Hid (∀ n v W, TQ w hp cp sp K4 (f n) W → Calls Tryz.prog 12 #[.int .i64 v] W fun e w' => e = .returned (iO v).val ∧ TQ w hp cp sp K4 (f n) w') := hid' (fun n v => TQ.num v)
    have HNA : Hid (∀ n s W, TQ w hp cp sp K4 (f n) W → Calls Tryz.prog 11 #[.string s] W fun e w' => e = .returned (nameO s).val ∧ TQ w hp cp sp K4 (f n) w') := hid' (fun n s => TQ.name s)
    go_region_held3 (fun W' => ∃ n, TQ w hp cp sp K4 (f n) W') (first | (with_reducible assumption) | (with_reducible exact ⟨_, by with_reducible assumption⟩) | (with_reducible exact ⟨_, HDR.out _ _ (by with_reducible assumption)⟩) | (with_reducible exact ⟨_, HGR.out _ _ _ (by with_reducible assumption)⟩))
      (first
        | (go_at_call 12; refine (HNU.out _ _ _ (by first | with_reducible assumption | (with_reducible exact HDR.out _ _ (by with_reducible assumption)))).mono ?_; rintro r w7 ⟨rfl, S6⟩)
        | (go_at_call 11; refine (HNA.out _ _ _ (by first | with_reducible assumption | (with_reducible exact HDR.out _ _ (by with_reducible assumption)))).mono ?_; rintro r w7 ⟨rfl, S6⟩)
        | (go_at_call 10; refine (D10.out _ _ _ _ _ _ _ _ (by first | with_reducible assumption | (with_reducible exact HDR.out _ _ (by with_reducible assumption)))).mono ?_; rintro r w7 ⟨rfl, S6⟩))
    clear hS1 HDR HGR HNU HNA Q_nW l_nW Q_nd l_nd
    clear S11 D10
    go_upto_region 23 with (fail)
    (try clear Rw); (try clear yw); (try clear Zw)
    have Rw := cells_of (S6.box _ nW)
    have yw := blk_lt (S6.box _ nW)
    (try simp only at Rw yw)
    go_wp2_with fail
    refine (T11.out _ _ _ _ _ _ _ _ S6).mono ?_
    rintro r w8 ⟨rfl, S8⟩
    clear Rw yw T11 S6
    have S9 := S8.alloc (Obj.cells #[.int .i64 2, .bool false, .int .i64 0, .int .i64 0, .int .i64 0, .string ⟨#[]⟩] 38)
    generalize hg : w8.heap.size = go at *
    go_upto_region 24 with (fail)
    generalize hW : w8.alloc _ = w3 at *
    clear hW hg
    obtain ⟨K5, hK5⟩ : ∃ K', K' = (go, Obj.cells #[.int .i64 2, .bool false, .int .i64 0, .int .i64 0, .int .i64 0, .string ⟨#[]⟩] 38) :: K4 := ⟨_, rfl⟩
    have no : (go, Obj.cells #[.int .i64 2, .bool false, .int .i64 0, .int .i64 0, .int .i64 0, .string ⟨#[]⟩] 38) ∈ K5 := by rw [hK5]; exact m0
    have ny : (ga, Obj.cells #[.int .i64 2, .bool false, .int .i64 1, .int .i64 0, .int .i64 0, .string ⟨#[]⟩] 38) ∈ K5 := by rw [hK5]; exact List.mem_cons_of_mem _ ny
    have nt : (gb, Obj.cells #[.int .i64 10, .bool false, .int .i64 1, .int .i64 0, .int .i64 0, .string ⟨#[]⟩] 38) ∈ K5 := by rw [hK5]; exact List.mem_cons_of_mem _ nt
    have nW : (g2, xBox hp cp sp gp (.pointer x) tp) ∈ K5 := by rw [hK5]; exact List.mem_cons_of_mem _ nW
    have nd : (gd, Obj.cells #[.int .i64 10, .bool false, .int .i64 2, .int .i64 0, .int .i64 0, .string ⟨#[]⟩] 38) ∈ K5 := by rw [hK5]; exact List.mem_cons_of_mem _ nd
    have nx : (gx, Obj.cells #[.int .i64 3, .bool false, .int .i64 u, .int .i64 0, .int .i64 0, .string ⟨#[]⟩] 38) ∈ K5 := by rw [hK5]; exact List.mem_cons_of_mem _ nx
    rw [← hK5] at S9
    clear hK5
    clear S8
    (try clear Rw); (try clear yw); (try clear Zw)
    have Rw := cells_of (S9.box _ nW)
    have yw := blk_lt (S9.box _ nW)
    (try simp only at Rw yw)
    go_wp2_with fail
    refine (D12.out _ _ _ _ _ _ _ _ S9).mono ?_
    rintro r w9 ⟨rfl, S10⟩
    clear D12 Rw yw S9
    go_upto_region 25 with (fail)
    have Q_nW := TQ.cells (w0 := w) (hp := hp) (cp := cp) (sp := sp) (f := f) nW
    have l_nW := blk_lt (S10.box _ nW)
    simp only at l_nW
    have hS1 : ∃ n, TQ w hp cp sp K5 (f n) _ := ⟨_, S10⟩
    have HDR := hid' (fun n W (h : TQ w hp cp sp K5 (f n) W) => h.drew)
    have HGR := hid' (fun n W o (h : TQ w hp cp sp K5 (f n) W) => h.grow o)
    have HNU : Hid (∀ n v W, TQ w hp cp sp K5 (f n) W → Calls Tryz.prog 12 #[.int .i64 v] W fun e w' => e = .returned (iO v).val ∧ TQ w hp cp sp K5 (f n) w') := hid' (fun n v => TQ.num v)
    have HNA : Hid (∀ n s W, TQ w hp cp sp K5 (f n) W → Calls Tryz.prog 11 #[.string s] W fun e w' => e = .returned (nameO s).val ∧ TQ w hp cp sp K5 (f n) w') := hid' (fun n s => TQ.name s)
    go_region_held3 (fun W' => ∃ n, TQ w hp cp sp K5 (f n) W') (first | (with_reducible assumption) | (with_reducible exact ⟨_, by with_reducible assumption⟩) | (with_reducible exact ⟨_, HDR.out _ _ (by with_reducible assumption)⟩) | (with_reducible exact ⟨_, HGR.out _ _ _ (by with_reducible assumption)⟩))
      (first
        | (go_at_call 12; refine (HNU.out _ _ _ (by first | with_reducible assumption | (with_reducible exact HDR.out _ _ (by with_reducible assumption)))).mono ?_; rintro r w7 ⟨rfl, S6⟩)
        | (go_at_call 11; refine (HNA.out _ _ _ (by first | with_reducible assumption | (with_reducible exact HDR.out _ _ (by with_reducible assumption)))).mono ?_; rintro r w7 ⟨rfl, S6⟩)
        | (go_at_call 10; refine (D13.out _ _ _ _ _ _ _ _ (by first | with_reducible assumption | (with_reducible exact HDR.out _ _ (by with_reducible assumption)))).mono ?_; rintro r w7 ⟨rfl, S6⟩))
    clear hS1 HDR HGR HNU HNA Q_nW l_nW
    clear S10 D13
    go_upto_region 26 with (fail)
    (try clear Rw); (try clear yw); (try clear Zw)
    have Rw := cells_of (S6.box _ nW)
    have yw := blk_lt (S6.box _ nW)
    (try simp only at Rw yw)
    go_wp2_with fail
    refine (T14.out _ _ _ _ _ _ _ _ S6).mono ?_
    rintro r w8 ⟨rfl, S8⟩
    clear Rw yw T14 S6
    have S9 := S8.alloc (Obj.cells #[.int .i64 3, .bool false, .int .i64 u, .int .i64 0, .int .i64 0, .string ⟨#[]⟩] 38)
    generalize hg : w8.heap.size = gy at *
    go_upto_region 27 with (fail)
    generalize hW : w8.alloc _ = w3 at *
    clear hW hg
    obtain ⟨K6, hK6⟩ : ∃ K', K' = (gy, Obj.cells #[.int .i64 3, .bool false, .int .i64 u, .int .i64 0, .int .i64 0, .string ⟨#[]⟩] 38) :: K5 := ⟨_, rfl⟩
    have nyy : (gy, Obj.cells #[.int .i64 3, .bool false, .int .i64 u, .int .i64 0, .int .i64 0, .string ⟨#[]⟩] 38) ∈ K6 := by rw [hK6]; exact m0
    have no : (go, Obj.cells #[.int .i64 2, .bool false, .int .i64 0, .int .i64 0, .int .i64 0, .string ⟨#[]⟩] 38) ∈ K6 := by rw [hK6]; exact List.mem_cons_of_mem _ no
    have ny : (ga, Obj.cells #[.int .i64 2, .bool false, .int .i64 1, .int .i64 0, .int .i64 0, .string ⟨#[]⟩] 38) ∈ K6 := by rw [hK6]; exact List.mem_cons_of_mem _ ny
    have nt : (gb, Obj.cells #[.int .i64 10, .bool false, .int .i64 1, .int .i64 0, .int .i64 0, .string ⟨#[]⟩] 38) ∈ K6 := by rw [hK6]; exact List.mem_cons_of_mem _ nt
    have nW : (g2, xBox hp cp sp gp (.pointer x) tp) ∈ K6 := by rw [hK6]; exact List.mem_cons_of_mem _ nW
    have nd : (gd, Obj.cells #[.int .i64 10, .bool false, .int .i64 2, .int .i64 0, .int .i64 0, .string ⟨#[]⟩] 38) ∈ K6 := by rw [hK6]; exact List.mem_cons_of_mem _ nd
    have nx : (gx, Obj.cells #[.int .i64 3, .bool false, .int .i64 u, .int .i64 0, .int .i64 0, .string ⟨#[]⟩] 38) ∈ K6 := by rw [hK6]; exact List.mem_cons_of_mem _ nx
    rw [← hK6] at S9
    clear hK6
    clear S8
    (try clear Rw); (try clear yw); (try clear Zw)
    have Rw := cells_of (S9.box _ nW)
    have yw := blk_lt (S9.box _ nW)
    (try simp only at Rw yw)
    go_wp2_with fail
    refine (D15.out _ _ _ _ _ _ _ _ S9).mono ?_
    rintro r w9 ⟨rfl, S10⟩
    clear D15 Rw yw S9
    go_upto_region 28 with (fail)
    have Q_nW := TQ.cells (w0 := w) (hp := hp) (cp := cp) (sp := sp) (f := f) nW
    have l_nW := blk_lt (S10.box _ nW)
    simp only at l_nW
    have Q_nx := TQ.cells (w0 := w) (hp := hp) (cp := cp) (sp := sp) (f := f) nx
    have l_nx := blk_lt (S10.box _ nx)
    simp only at l_nx
    have Q_ny := TQ.cells (w0 := w) (hp := hp) (cp := cp) (sp := sp) (f := f) ny
    have l_ny := blk_lt (S10.box _ ny)
    simp only at l_ny
    have hS1 : ∃ n, TQ w hp cp sp K6 (f n) _ := ⟨_, S10⟩
    have HDR := hid' (fun n W (h : TQ w hp cp sp K6 (f n) W) => h.drew)
    have HGR := hid' (fun n W o (h : TQ w hp cp sp K6 (f n) W) => h.grow o)
    have HNU : Hid (∀ n v W, TQ w hp cp sp K6 (f n) W → Calls Tryz.prog 12 #[.int .i64 v] W fun e w' => e = .returned (iO v).val ∧ TQ w hp cp sp K6 (f n) w') := hid' (fun n v => TQ.num v)
    have HNA : Hid (∀ n s W, TQ w hp cp sp K6 (f n) W → Calls Tryz.prog 11 #[.string s] W fun e w' => e = .returned (nameO s).val ∧ TQ w hp cp sp K6 (f n) w') := hid' (fun n s => TQ.name s)
    go_region_held3 (fun W' => ∃ n, TQ w hp cp sp K6 (f n) W') (first | (with_reducible assumption) | (with_reducible exact ⟨_, by with_reducible assumption⟩) | (with_reducible exact ⟨_, HDR.out _ _ (by with_reducible assumption)⟩) | (with_reducible exact ⟨_, HGR.out _ _ _ (by with_reducible assumption)⟩))
      (first
        | (go_at_call 12; refine (HNU.out _ _ _ (by first | with_reducible assumption | (with_reducible exact HDR.out _ _ (by with_reducible assumption)))).mono ?_; rintro r w7 ⟨rfl, S6⟩)
        | (go_at_call 11; refine (HNA.out _ _ _ (by first | with_reducible assumption | (with_reducible exact HDR.out _ _ (by with_reducible assumption)))).mono ?_; rintro r w7 ⟨rfl, S6⟩)
        | (go_at_call 13; refine (T16.out _ _ _ _ _ _ _ _ (by first | with_reducible assumption | (with_reducible exact HDR.out _ _ (by with_reducible assumption)))).mono ?_; rintro r w7 ⟨rfl, S6⟩)
        | (go_at_call 14; refine (HLN.out _ _ _ _ _ (by first | with_reducible assumption | (with_reducible exact HDR.out _ _ (by with_reducible assumption)))).mono ?_; rintro r w7 ⟨rfl, S6⟩))
    clear hS1 HDR HGR HNU HNA Q_nW l_nW Q_nx l_nx Q_ny l_ny
    clear S10 T16 HLN
    go_upto_region 31 with (fail)
    have S10 := S6
    clear S6
    have Q_nyy := TQ.cells (w0 := w) (hp := hp) (cp := cp) (sp := sp) (f := f) nyy
    have l_nyy := blk_lt (S10.box _ nyy)
    simp only at l_nyy
    have Q_nt := TQ.cells (w0 := w) (hp := hp) (cp := cp) (sp := sp) (f := f) nt
    have l_nt := blk_lt (S10.box _ nt)
    simp only at l_nt
    have Q_no := TQ.cells (w0 := w) (hp := hp) (cp := cp) (sp := sp) (f := f) no
    have l_no := blk_lt (S10.box _ no)
    simp only at l_no
    have hS1 : ∃ n, TQ w hp cp sp K6 (f n) _ := ⟨_, S10⟩
    have HDR := hid' (fun n W (h : TQ w hp cp sp K6 (f n) W) => h.drew)
    have HGR := hid' (fun n W o (h : TQ w hp cp sp K6 (f n) W) => h.grow o)
    have HNU : Hid (∀ n v W, TQ w hp cp sp K6 (f n) W → Calls Tryz.prog 12 #[.int .i64 v] W fun e w' => e = .returned (iO v).val ∧ TQ w hp cp sp K6 (f n) w') := hid' (fun n v => TQ.num v)
    have HNA : Hid (∀ n s W, TQ w hp cp sp K6 (f n) W → Calls Tryz.prog 11 #[.string s] W fun e w' => e = .returned (nameO s).val ∧ TQ w hp cp sp K6 (f n) w') := hid' (fun n s => TQ.name s)
    go_region_held3 (fun W' => ∃ n, TQ w hp cp sp K6 (f n) W') (first | (with_reducible assumption) | (with_reducible exact ⟨_, by with_reducible assumption⟩) | (with_reducible exact ⟨_, HDR.out _ _ (by with_reducible assumption)⟩) | (with_reducible exact ⟨_, HGR.out _ _ _ (by with_reducible assumption)⟩))
      (first
        | (go_at_call 12; refine (HNU.out _ _ _ (by first | with_reducible assumption | (with_reducible exact HDR.out _ _ (by with_reducible assumption)))).mono ?_; rintro r w7 ⟨rfl, S6⟩)
        | (go_at_call 11; refine (HNA.out _ _ _ (by first | with_reducible assumption | (with_reducible exact HDR.out _ _ (by with_reducible assumption)))).mono ?_; rintro r w7 ⟨rfl, S6⟩))
    clear hS1 HDR HGR HNU HNA Q_nyy l_nyy Q_nt l_nt Q_no l_no
    go_wp2_with fail
    go_ret
    exact ⟨rfl, S6.chg⟩
end Go.Proofs.YtpgkjgceldleaaaGreat
