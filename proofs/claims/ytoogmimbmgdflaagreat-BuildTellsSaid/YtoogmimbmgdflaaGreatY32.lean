/- Parts of the proof: Uro, Uxa. -/
import Derived.Test.YtoogmimbmgdflaaGreatY18
import Derived.Test.YtoogmimbmgdflaaGreatY31
namespace Go.Proofs.YtoogmimbmgdflaaGreat
open Go.RowKit
variable {w w0 : World} {M : List (Nat × List C)} {K : List (Nat × Obj)}
section
def RSx (J0 : List (Nat × Obj)) (w0 : World) (gp : Nat) (M : List (Nat × List C)) (K : List (Nat × Obj)) (W : World) : Prop := ∃ L, RS J0 w0 gp M K L W
section
variable {J0 : List (Nat × Obj)} {w0 W : World} {gp : Nat} {M : List (Nat × List C)} {K : List (Nat × Obj)} {L : List C}
theorem RSx.of (T : RS J0 w0 gp M K L W) : RSx J0 w0 gp M K W := ⟨L, T⟩
theorem RSx.drew (T : RSx J0 w0 gp M K W) : RSx J0 w0 gp M K W.drew := by obtain ⟨L, T⟩ := T; exact ⟨L, T.drew⟩
theorem RSx.cells {g : Nat} {cs : Array Value} {T' : TypeId} {fz : Nat × Nat} (hm : (g, Obj.cells cs T' fz) ∈ K) : ∀ W, RSx J0 w0 gp M K W → ∀ i, W.cell? ⟨g, i, none⟩ = cs[i]? := by
 rintro W ⟨L, T⟩ i; exact cells_of (T.box _ hm) i
theorem rs_dict (n : Int) {L' : List C} {o : O} {e : Int} (hr : dictH L n = (L', o, e)) (T : RS J0 w0 gp M K L W) : Calls Tryz.prog 32 #[ptr gp, .int .i64 n] W fun r w' => r = .returned (.tuple #[o.val, .int .i64 e]) ∧ RS J0 w0 gp M K L' w' := by
 obtain ⟨E, H, A⟩ := T
 exact (rdict_any H A n hr).mono fun r w' ⟨h1, E', h2, h3⟩ => ⟨h1, E', h2, h3⟩
theorem rs_lock (o : O) {L' : List C} {e : Int} (hr : lockH L o = (L', e)) (T : RS J0 w0 gp M K L W) : Calls Tryz.prog 36 #[ptr gp, o.val] W fun r w' => r = .returned (.int .i64 e) ∧ RS J0 w0 gp M K L' w' := by
 obtain ⟨E, H, A⟩ := T
 exact (rlock_any H A o hr).mono fun r w' ⟨h1, E', h2, h3⟩ => ⟨h1, E', h2, h3⟩
theorem RS.ats (T : RS J0 w0 gp M K L W) : Ats w0 W M K := by
 obtain ⟨E, H, A⟩ := T; exact A.keep (List.sublist_append_right E K)
end
end
noncomputable def nmV : List Value := opT.map fun p => .string ⟨p.2.toArray⟩
theorem nmV_length : nmV.length = 162 := by rw [nmV, List.length_map, opT_length]
def offs15 (k : Nat) : Nat := if k = 0 then 0 else if k = 1 then 38 else if k = 2 then 58 else if k = 3 then 71 else if k = 4 then 80 else if k = 5 then 101 else 162
def NamesE (w : World) (k : Nat) (r : Ending) (w' : World) : Prop :=
 ∃ (cs : Array Value) (n : Nat), r = .returned (.slice (some ⟨w.heap.size, 0, none⟩) n n) ∧ cs.size = n ∧ offs15 k + n = offs15 (k + 1) ∧ cs.toList = (nmV.drop (offs15 k)).take n ∧ w' = w.alloc (.cells cs 9)
set_option maxRecDepth 100000 in
set_option maxHeartbeats 1000000 in
theorem names15_ex (k : Nat) (h : k < 6) (w : World) : Calls Tryz.prog 106 #[.int .i64 ((k : Int) + 1)] w (NamesE w k) := by
 have h : k = 0 ∨ k = 1 ∨ k = 2 ∨ k = 3 ∨ k = 4 ∨ k = 5 := by omega
 rcases h with rfl | rfl | rfl | rfl | rfl | rfl
 all_goals
  go_enter Tryz.func106, Tryz.ntmps106
  go_wp2_with fail
  go_ret; exact ⟨_, _, rfl, rfl, by decide, by kernel_rfl, rfl⟩
theorem nmV_str : ∀ u ∈ nmV, u.oneCell' = true := fun u hu => by
 obtain ⟨p, -, rfl⟩ := List.mem_map.1 hu; rfl
theorem nmV_at (j : Nat) (h : j < 162) : nmV[j]? = some (.string (opN ((j : Int) + 1))) := by
 have hl : j < opT.length := by rw [opT_length]; exact h
 rw [nmV, List.getElem?_map, List.getElem?_eq_getElem hl, opN_nat, List.getD_eq_getElem?_getD, List.getElem?_map, List.getElem?_eq_getElem hl]; rfl
set_option maxRecDepth 100000 in
set_option maxHeartbeats 2000000 in
theorem all15_ex (A : Ats w0 w M K) : Calls Tryz.prog 64 #[] w fun r w' => ∃ R lv, r = .returned lv ∧ RowG 9 1 R lv 162 nmV ∧ Ats w0 w' M (R ++ K) := by
 obtain ⟨i0, hi, hz0, hz1, hz2⟩ := info_parts ur_info; go_enter Tryz.func64, Tryz.ntmps64
 go_wp2_with fail
 go_loopw [1, 2] (fun lv kv wr => ∃ (k : Nat) (R : List (Nat × Obj)), kv = .int .i64 ((k : Int) + 1) ∧ k ≤ 6 ∧ RowG 9 1 R lv (offs15 k) (nmV.take (offs15 k)) ∧ Ats w0 wr M (R ++ K)) (fun _ kv _ => 7 - (intOf kv).toNat)
 case atStart => exact ⟨0, [], rfl, by omega, .inl ⟨rfl, rfl, rfl, rfl⟩, A⟩
 case round =>
  obtain ⟨k, R, rfl, hk, hR, A2⟩ := hrel; clear A
  by_cases hlt : k < 6
  · have hlt' : (k : Int) < 6 := by omega
    have hN := hid' (fun W => names15_ex k hlt W)
    have hoff : Hid (offs15 k ≤ 101) := hid' (by
     have h : k = 0 ∨ k = 1 ∨ k = 2 ∨ k = 3 ∨ k = 4 ∨ k = 5 := by omega
     rcases h with rfl | rfl | rfl | rfl | rfl | rfl <;> decide)
    have hoff2 : Hid (offs15 (k + 1) ≤ 162) := hid' (by
     have h : k = 0 ∨ k = 1 ∨ k = 2 ∨ k = 3 ∨ k = 4 ∨ k = 5 := by omega
     rcases h with rfl | rfl | rfl | rfl | rfl | rfl <;> decide)
    have hoff3 : Hid (offs15 k < offs15 (k + 1)) := hid' (by
     have h : k = 0 ∨ k = 1 ∨ k = 2 ∨ k = 3 ∨ k = 4 ∨ k = 5 := by omega
     rcases h with rfl | rfl | rfl | rfl | rfl | rfl <;> decide)
    obtain ⟨nn, hnn⟩ : ∃ nn, offs15 k = nn := ⟨_, rfl⟩
    obtain ⟨mm, hmm⟩ : ∃ mm, offs15 (k + 1) = mm := ⟨_, rfl⟩
    unfold NamesE at hN; rw [hnn] at hR hN hoff hoff3; rw [hmm] at hN hoff2 hoff3; have HMM := hid' hmm; clear hnn hmm; obtain ⟨a, c, rfl, hac⟩ := rowG_slice hR; have HR := hid' hR; clear hR hac; go_wp2_with fail
    refine (hN.out _).mono ?_; rintro r w3 ⟨cs, m, rfl, hcs, hm0, hall, rfl⟩; have A3 := A2.pure ((Chg.refl NoB wr).alloc (.cells cs 9)); have HA := hid' A3; have HAL := hid' hall; have HCS := hid' hcs; have HM0 := hid' hm0; clear A2 A3 hall hcs hN hm0
    go_wp2_with (at_builtin; refine wpList_append_own_at _ rfl _ _ 130 rfl w0.heap.size 9 i0 (.string ⟨#[]⟩) 1 16 ur_under hi hz0 hz1 hz2 rfl (by decide) (.slice a nn c) nn (nmV.take nn) rfl (HA.out.ownsG HR.out) ⟨wr.heap.size, 0, none⟩ m m cs.toList rfl (by rw [Array.length_toList, HCS.out, Nat.mul_one]) (fun j u hj => World.news_of_block (w := wr.alloc (.cells cs 9)) (B := wr.heap.size) (cs := cs) (t := 9) (fr := (0, 0)) (blk_new wr _) j u (by simpa using hj)) (fun u hu => nmV_str u (by rw [HAL.out] at hu; exact List.mem_of_mem_drop (List.mem_of_mem_take hu))) ?_ ?_ ?_ ?_; (unfold maxLen; have := hoff2.out; have := HM0.out; omega); (have := hoff2.out; have := HM0.out; omega); (have := HA.out.chg.size; exact this); intro v' w5 hown hgr _ hob)
    obtain ⟨R', hR', A6⟩ := HA.out.grownG HR.out hown hgr (by
     rcases hob with e | e
     · exact .inl e
     · exact .inr e) (by have := hoff3.out; have := HM0.out; omega)
    have HR' : Hid (RowG 9 1 R' v' (offs15 (k + 1)) (nmV.take (offs15 (k + 1)))) := hid' (by
     rw [HMM.out, ← HM0.out, List.take_add, ← HAL.out]
     exact hR')
    clear hown hgr hob HR HA HAL HCS hR' HM0 hoff hoff2 hoff3 HMM; go_wp2_with fail
    go_roundw
    case rel => exact ⟨k + 1, R', by go_num, by omega, HR'.out, A6⟩
    case measure => simp [intOf]; omega
  · obtain rfl : k = 6 := by omega
    have hR2 : RowG 9 1 R u1 162 nmV := by
     have h := hR; rw [show offs15 6 = 162 from rfl, List.take_of_length_le (by rw [nmV_length]; exact Nat.le_refl _)] at h; exact h
    clear hR; go_wp2_with fail
    go_ret; exact ⟨R, _, rfl, hR2, A2⟩
set_option maxRecDepth 100000 in
theorem count15_ex (A : Ats w0 w M K) : Calls Tryz.prog 31 #[] w fun r w' => r = .returned (.int .i64 162) ∧ Ats w0 w' M K := by
 go_enter Tryz.func31, Tryz.ntmps31
 go_wp2_with fail
 refine (all15_ex A).mono ?_; rintro r w2 ⟨R, lv, rfl, hR, A2⟩; obtain ⟨a, c, rfl, hac⟩ := rowG_slice hR; have A3 := A2.keep (List.sublist_append_right R K); clear A A2 hR; go_wp2_with fail
 go_ret; exact ⟨rfl, A3⟩
set_option maxRecDepth 100000 in
theorem name15_ex (A : Ats w0 w M K) (k : Int) (h1 : 1 ≤ k) (h2 : k ≤ 162) : Calls Tryz.prog 35 #[.int .i64 k] w fun r w' => r = .returned (.string (opN k)) ∧ Ats w0 w' M K := by
 go_enter Tryz.func35, Tryz.ntmps35
 go_wp2_with fail
 refine (all15_ex A).mono ?_; rintro r w2 ⟨R, lv, rfl, hR, A2⟩; have A3 := hid' (A2.keep (List.sublist_append_right R K)); obtain ⟨m, rfl⟩ := Int.eq_ofNat_of_zero_le (show 0 ≤ k by omega); obtain ⟨g, cap, cur, rfl, rfl, hc⟩ := hR.shape (by omega)
 obtain ⟨j, rfl⟩ : ∃ j, m = j + 1 := ⟨m - 1, by omega⟩
 have hq := (hc j (by omega)).trans (nmV_at j (by omega))
 have hcap : 162 ≤ cap := by
  obtain ⟨a, c, e, hac⟩ := rowG_slice hR; simp only [Value.slice.injEq] at e; omega
 have A4 := A2
 (try clear Rg); (try clear yg); (try clear Zg)
 have Rg := cells_of (A4.box _ m0); have yg := blk_lt (A4.box _ m0)
 (try simp only at Rg yg)
 have hcast : ((j + 1 : Nat) : Int) = (j : Int) + 1 := by omega
 rw [hcast] at h1 h2 ⊢
 have e1 : (j : Int) + 1 - 1 = j := by omega
 have e2 : (j : Int) < 162 := by omega
 have e3 : (162 : Int) ≤ cap := by omega
 have e5 : ¬ (j : Int) + 1 < 1 := by omega
 have e6 : ¬ (162 : Int) < (j : Int) + 1 := by omega
 have v1 := IntWalk.i64_in (j : Int) (by omega); clear hc hR A4 A2 A hcap; go_wp2_with fail
 go_ret; exact ⟨rfl, A3.out⟩
end Go.Proofs.YtoogmimbmgdflaaGreat
