/- BuildDeep: the walk. -/
import Derived.Test.YtpgkjgceldleaaaZBuildc
namespace Go.Proofs.Ytpgkjgceldleaaa
open Go.RowKit

/-- The words of BuildDeep. -/
def DeepW (t : Tok) : Prop := (∃ i : Nat, i ≤ 1000 ∧ t = tkI i) ∨ t = tkO ∨ t = tkC
theorem DeepW.ok {t : Tok} (h : DeepW t) : TokB t ∧ t.kind ≠ 5 := by
  rcases h with ⟨i, -, rfl⟩ | rfl | rfl
  · exact ⟨⟨show (⟨#[]⟩ : ByteArray).size ≤ _ by decide, show (_ : Int) ≤ 1 by decide, show (1 : Int) ≤ _ by decide⟩, show (1 : Int) ≠ 5 by decide⟩
  · exact ⟨⟨by decide, by decide, by decide⟩, by decide⟩
  · exact ⟨⟨by decide, by decide, by decide⟩, by decide⟩
theorem deepT_w (k : Nat) (hk : k ≤ 1000) : ∀ t ∈ deepT k, DeepW t := by
  intro t ht
  obtain ⟨i, hi, h⟩ := List.mem_flatMap.1 ht
  have := List.mem_range.1 hi
  simp only [List.mem_cons, List.not_mem_nil, or_false] at h
  rcases h with rfl | rfl
  · exact .inl ⟨i, by omega, rfl⟩
  · exact .inr (.inl rfl)
theorem reps_w (j : Nat) : ∀ t ∈ List.replicate j tkC, DeepW t := fun _t ht => .inr (.inr (List.eq_of_mem_replicate ht))
theorem w_app {l m : List Tok} (h : ∀ t ∈ l, DeepW t) (h2 : ∀ t ∈ m, DeepW t) : ∀ t ∈ l ++ m, DeepW t := fun t ht => (List.mem_append.1 ht).elim (h t) (h2 t)
/-- Objects, of words in a row of the law's own. -/
theorem objsR {w0 w : World} {hp cp : Nat} {L L' : List C} {R K : List (Nat × Obj)} {v : Value} {n : Nat} {ts : List Tok} {os : List O} {a e : Int} (A : Ats w0 w [(hp, L)] (R ++ K)) (hn : ts.length = n) (hR : RowG 31 4 R v n (toksV ts)) (hw : ∀ t ∈ ts, DeepW t) (h9 : n ≤ 1000) (hres : objsB noF L ts = (L', os, a, e)) :
    Calls Try.prog 9 #[ptr hp, ptr cp, v] w fun r w' => ∃ v R', r = .returned (.tuple #[v, .int .i64 a, .int .i64 e]) ∧ RowG 36 6 R' v os.length (os.flatMap O.cells) ∧ Ats w0 w' [(hp, L')] (R' ++ (R ++ K)) := by
  subst hn
  exact objs_any (cp := cp) A v ts (fun W M' E A' => toksG hR A') (fun t ht => (hw t ht).ok.1) h9 noF (no5 fun t ht => (hw t ht).ok.2) hres
theorem toksV_app (l m : List Tok) : toksV (l ++ m) = toksV l ++ toksV m := by simp [toksV]
theorem toksV_two (a b : Tok) : toksV [a, b] = Tok.cells a ++ Tok.cells b := by simp [toksV]
theorem toksV_one (a : Tok) : toksV [a] = Tok.cells a := by simp [toksV]
/-- What the three calls answer. -/
theorem deep_res (k : Nat) (hk : k < 30) : ∃ L1 L2 L3 a1 e1 os2 a2 e2 a3 e3, objsB noF (hQ sysQ) (deepT k) = (L1, [], a1, e1) ∧ objsB noF L1 (deepT k ++ List.replicate k tkC) = (L2, os2, a2, e2) ∧ objsB noF L2 (deepT k ++ List.replicate k tkC ++ [tkC]) = (L3, [], a3, e3) ∧
    ((20 < k ∧ e1 = 5 ∧ a1 = 41 ∧ e2 = 5 ∧ a2 = 41 ∧ e3 = 5 ∧ a3 = 41) ∨ (k = 0 ∧ e1 = 0 ∧ e2 = 0 ∧ e3 = 3 ∧ a3 = 0) ∨
      (0 < k ∧ k ≤ 20 ∧ e1 = 4 ∧ a1 = 2 * (k : Int) - 1 ∧ e2 = 0 ∧ a2 = 0 ∧ (∃ N z, os2 = [iO 0, arX N z]) ∧ e3 = 3 ∧ a3 = 3 * (k : Int))) := by
  by_cases h : 20 < k
  · refine ⟨hQ sysQ, hQ sysQ, hQ sysQ, 41, 5, [], 41, 5, 41, 5, ?_, deep_many (hQ sysQ) k h _, ?_, .inl ⟨h, rfl, rfl, rfl, rfl, rfl, rfl⟩⟩
    · have := deep_many (hQ sysQ) k h []
      rwa [List.append_nil] at this
    · rw [List.append_assoc]; exact deep_many _ k h _
  · by_cases h0 : k = 0
    · subst h0
      obtain ⟨L3, h3⟩ := deep_three (hQ sysQ) 0 (by decide) (by rw [sysQ_len8]; decide) (by rw [sysQ_used8]; decide)
      exact ⟨_, _, L3, _, _, [], _, _, _, _, deep_one (hQ sysQ) 0 (by decide), deep_one (hQ sysQ) 0 (by decide), h3, .inr (.inl ⟨rfl, rfl, rfl, rfl, rfl⟩)⟩
    · obtain ⟨L2, N, z, h2, l2, u2⟩ := deep_two (hQ sysQ) k (by omega) (by omega) (by rw [sysQ_len8]; decide) (by rw [sysQ_used8]; decide)
      rw [sysQ_len8] at l2
      rw [sysQ_used8] at u2
      obtain ⟨L3, h3⟩ := deep_three L2 k (by omega) (by omega) (by omega)
      have h1 := deep_one (hQ sysQ) k (by omega)
      rw [if_neg h0, if_neg h0] at h1
      exact ⟨_, L2, L3, _, _, _, _, _, _, _, h1, h2, h3, .inr (.inr ⟨by omega, by omega, rfl, rfl, rfl, rfl, ⟨N, z, rfl⟩, rfl, rfl⟩)⟩
theorem one8 (a b : Tok) : ∀ u ∈ Tok.cells a ++ Tok.cells b, u.oneCell' = true := by
  intro u hu
  simp only [Tok.cells, List.mem_append, List.mem_cons, List.not_mem_nil, or_false] at hu
  rcases hu with (rfl | rfl | rfl | rfl) | rfl | rfl | rfl | rfl <;> rfl
theorem one4 (a : Tok) : ∀ u ∈ Tok.cells a, u.oneCell' = true := by
  intro u hu
  simp only [Tok.cells, List.mem_cons, List.not_mem_nil, or_false] at hu
  rcases hu with rfl | rfl | rfl | rfl <;> rfl
set_option maxRecDepth 100000 in
set_option maxHeartbeats 8000000 in
theorem buildDeep_any (n at_ : Int) (hn : 0 ≤ n ∧ n < 256) (w : World) :
    Calls Try.prog 3 #[.int .u8 n, .int .u8 at_] w fun e w' => e = .returned (.bool true) ∧ Chg NoB w w' := by
  have HKN := hid' (known22_any w)
  obtain ⟨k, hk⟩ : ∃ k : Nat, n.tmod 30 = k := ⟨(n % 30).toNat, by rw [Int.tmod_eq_emod_of_nonneg hn.1]; omega⟩
  have hk30 : k < 30 := by rw [Int.tmod_eq_emod_of_nonneg hn.1] at hk; omega
  have hki : (k : Int) < 30 := by omega
  have ni := IntWalk.i64_in n (by omega)
  obtain ⟨i0, hi, hz0, hz1, hz2⟩ := info_parts infoTok
  clear hn
  go_enter Try.func3, Try.ntmps3
  go_wp2_with fail
  refine HKN.out.mono ?_
  rintro e w1 ⟨rfl, X1⟩
  go_wp2_with fail
  refine (at_hnew (Ats.start X1)).mono ?_
  rintro e w2 ⟨hp, rfl, A0⟩
  clear HKN X1
  go_wp2_with fail
  refine (new22 A0).mono ?_
  rintro e w3 ⟨cp, rfl, A1⟩
  clear A0
  go_wp2_with fail
  go_loopw [9, 10] (fun v cv wr => ∃ (i : Nat) (R : List (Nat × Obj)), i ≤ k ∧ cv = .int .i64 i ∧ RowG 31 4 R v (2 * i) (toksV (deepT i)) ∧ Ats w wr [(hp, hQ sysQ)] (R ++ [])) (fun _ cv _ => k - (intOf cv).toNat)
  case atStart => exact ⟨0, [], Nat.zero_le _, rfl, .inl ⟨rfl, rfl, rfl, rfl⟩, A1⟩
  case round =>
  obtain ⟨i, R, hik, rfl, hR, A2⟩ := hrel
  clear A1
  by_cases hlt : i < k
  · have dl : (i : Int) < k := by omega
    have vi := IntWalk.i64_in ((i : Int) + 1) (by omega)
    have HS := hid' A2.chg.size
    go_wp2_with (at_builtin; refine wpList_append_own_at _ rfl (.tmp 37) (.tmp 41) 29 rfl w.heap.size 31 i0 (.agg #[.int .i64 0, .int .i64 0, .string ⟨#[]⟩, .int .i64 0]) 4 40 underToks hi hz0 hz1 hz2 rfl (by decide) u9 (2 * i) (toksV (deepT i)) rfl (Ats.ownsG (A2.pure ((Chg.refl NoB wr).alloc _)) hR) _ 2 2 (Tok.cells (tkI i) ++ Tok.cells tkO) rfl rfl (newsB_all (T := 31) (fz := (0, 0)) (blk_new wr _)) (one8 _ _) ?_ ?_ ?_ ?_; (unfold maxLen; omega); omega; (simp; have := HS.out; omega); intro v5 w5 hown5 hgr5 _ hob5; have HG := hid' (Ats.grownG (A2.pure ((Chg.refl NoB wr).alloc _)) hR hown5 hgr5 hob5 (by decide)); clear hown5 hgr5 hob5)
    obtain ⟨R', hR', A3⟩ := HG.out
    rw [← toksV_two, ← toksV_app, ← deepT_succ] at hR'
    clear HG A2 HS
    go_roundw
    case rel => exact ⟨i + 1, R', by omega, by go_num, hR', A3⟩
    case measure => simp [intOf]; omega
  · obtain rfl : i = k := by omega
    clear hlt hik
    obtain ⟨L1, L2, L3, a1, e1, os2, a2, e2, a3, e3, hr1, hr2, hr3, hver⟩ := deep_res i hk30
    have HVER := hid' hver
    have hC1 := objsR (cp := cp) A2 (deepT_length i) hR (deepT_w i (by omega)) (by omega) hr1
    have HR2 := hid' hr2
    have HR3 := hid' hr3
    have HR := hid' hR
    clear hver hr1 hr2 hr3 hR A2
    have HC1 := hid' hC1
    clear hC1
    go_wp2_with fail
    refine HC1.out.mono ?_
    rintro r w4 ⟨v1, R1, rfl, -, A3⟩
    replace A3 := A3.keep (List.sublist_append_right _ _)
    clear HC1
    have HRR := HR.out
    clear HR
    go_wp2_with fail
    go_loopw [9, 14] (fun v cv wr => ∃ (j : Nat) (R : List (Nat × Obj)), j ≤ i ∧ cv = .int .i64 j ∧ RowG 31 4 R v (2 * i + j) (toksV (deepT i ++ List.replicate j tkC)) ∧ Ats w wr [(hp, L1)] (R ++ [])) (fun _ cv _ => i - (intOf cv).toNat)
    case atStart => exact ⟨0, R, Nat.zero_le _, rfl, by rw [List.replicate_zero, List.append_nil]; exact HRR, A3⟩
    case round =>
    obtain ⟨j, R5, hji, rfl, hR, A2⟩ := hrel
    clear A3 HRR
    by_cases hlt : j < i
    · have dl : (j : Int) < i := by omega
      have vi := IntWalk.i64_in ((j : Int) + 1) (by omega)
      have HS := hid' A2.chg.size
      go_wp2_with (at_builtin; refine wpList_append_own_at _ rfl (.tmp 56) (.tmp 58) 29 rfl w.heap.size 31 i0 (.agg #[.int .i64 0, .int .i64 0, .string ⟨#[]⟩, .int .i64 0]) 4 40 underToks hi hz0 hz1 hz2 rfl (by decide) u9 (2 * i + j) (toksV (deepT i ++ List.replicate j tkC)) rfl (Ats.ownsG (A2.pure ((Chg.refl NoB wr).alloc _)) hR) _ 1 1 (Tok.cells tkC) rfl rfl (newsB_all (T := 31) (fz := (0, 0)) (blk_new wr _)) (one4 _) ?_ ?_ ?_ ?_; (unfold maxLen; omega); omega; (simp; have := HS.out; omega); intro v5 w5 hown5 hgr5 _ hob5; have HG := hid' (Ats.grownG (A2.pure ((Chg.refl NoB wr).alloc _)) hR hown5 hgr5 hob5 (by decide)); clear hown5 hgr5 hob5)
      obtain ⟨R', hR', A3⟩ := HG.out
      rw [← toksV_one, ← toksV_app, List.append_assoc, ← List.replicate_succ'] at hR'
      clear HG A2 HS
      go_roundw
      case rel => exact ⟨j + 1, R', by omega, by go_num, hR', A3⟩
      case measure => simp [intOf]; omega
    · obtain rfl : j = i := by omega
      clear hlt hji
      have hlen : (deepT j ++ List.replicate j tkC).length = 2 * j + j := by rw [List.length_append, deepT_length, List.length_replicate]
      have HC2 := hid' (objsR (cp := cp) A2 hlen hR (w_app (deepT_w j (by omega)) (reps_w j)) (by omega) HR2.out)
      have HR := hid' hR
      have HL := hid' hlen
      clear A2 hR HR2 hlen
      go_wp2_with fail
      refine HC2.out.mono ?_
      rintro r w5 ⟨v2, R2, rfl, hR2, A3⟩
      clear HC2
      have A4 := A3.perm (K' := R5 ++ R2) (by
        rw [List.append_nil]
        exact List.perm_append_comm)
      have HRO := hid' hR2
      clear A3 hR2
      have HS := hid' A4.chg.size
      go_wp2_with (at_builtin; refine wpList_append_own_at _ rfl (.tmp 71) (.tmp 73) 29 rfl w.heap.size 31 i0 (.agg #[.int .i64 0, .int .i64 0, .string ⟨#[]⟩, .int .i64 0]) 4 40 underToks hi hz0 hz1 hz2 rfl (by decide) u9 (2 * j + j) (toksV (deepT j ++ List.replicate j tkC)) rfl (Ats.ownsG (A4.pure ((Chg.refl NoB w5).alloc _)) HR.out) _ 1 1 (Tok.cells tkC) rfl rfl (newsB_all (T := 31) (fz := (0, 0)) (blk_new w5 _)) (one4 _) ?_ ?_ ?_ ?_; (unfold maxLen; omega); omega; (simp; have := HS.out; omega); intro v6 w6 hown6 hgr6 _ hob6; have HG := hid' (Ats.grownG (A4.pure ((Chg.refl NoB w5).alloc _)) HR.out hown6 hgr6 hob6 (by decide)); clear hown6 hgr6 hob6)
      obtain ⟨R', hR', A5⟩ := HG.out
      rw [← toksV_one, ← toksV_app] at hR'
      refine (objsR (cp := cp) A5 (by rw [List.length_append, HL.out]; rfl) hR' (w_app (w_app (deepT_w j (by omega)) (reps_w j)) (reps_w 1)) (by omega) HR3.out).mono ?_
      rintro r w7 ⟨v3, R3, rfl, hR3, A6⟩
      clear HG A4 A5 hR' HR3 HS HR HL
      obtain ⟨a3', c3', rfl, -⟩ := rowG_slice hR3
      rcases HVER.out with ⟨h1, rfl, rfl, rfl, rfl, rfl, rfl⟩ | ⟨rfl, rfl, rfl, rfl, rfl⟩ | ⟨h0, h1, rfl, rfl, rfl, rfl, ⟨N, z, rfl⟩, rfl, rfl⟩
      · have dk : (20 : Int) < j := by omega
        have X7 := A6.chg
        clear HVER HRO hR3 A6
        go_wp2_with fail
        go_ret
        exact ⟨rfl, X7⟩
      · have X7 := A6.chg
        clear HVER HRO hR3 A6
        go_wp2_with fail
        go_ret
        exact ⟨rfl, X7⟩
      · have dk : ¬ (20 : Int) < j := by omega
        have dz : ¬ (j : Int) = 0 := by omega
        have v7 := IntWalk.i64_in (2 * (j : Int)) (by omega)
        have v8 := IntWalk.i64_in (2 * (j : Int) - 1) (by omega)
        have v9 := IntWalk.i64_in (3 * (j : Int)) (by omega)
        obtain ⟨g, cap, cur, rfl, rfl, hc⟩ := HRO.out.shape (by simp)
        obtain ⟨aa, cc, hee, hcap⟩ := rowG_slice HRO.out
        simp only [Value.slice.injEq] at hee
        have hcap' : (2 : Int) ≤ cap := by rw [hee.2.2]; simp at hcap; omega
        have q6 := hc 6 (by simp)
        have q7 := hc 7 (by simp)
        simp [O.cells] at q6 q7
        have Rg := cells_of (A6.box (g, .cells cur 36) (by simp))
        have yg := blk_lt (A6.box (g, .cells cur 36) (by simp))
        simp only [List.length_cons, List.length_nil] at *
        have X7 := A6.chg
        clear HVER HRO hR3 A6 hc hee hcap
        go_wp2_with fail
        go_ret
        exact ⟨rfl, X7⟩
theorem buildDeep_sh (n at_ : Int) (w : World) (h0 : 0 ≤ n) (h1 : n < 256) (_ : 0 ≤ at_) (_ : at_ < 256) :
    Calls Try.prog 3 #[.int .u8 n, .int .u8 at_] w fun e w' => e = .returned (.bool true) ∧ Chg NoB w w' := buildDeep_any n at_ ⟨h0, h1⟩ w
end Go.Proofs.Ytpgkjgceldleaaa
