/- Urp, Ure, Urz -/
import Derived.Test.YtpgkjgceldleaaaGreatZTable
/- TableRefuses: what the dictionaries hold. -/
namespace Go.Proofs.YtpgkjgceldleaaaGreat
open Go.RowKit

theorem re_op_begin (w : World) : Calls Tryz.prog 8 #[.string ⟨#[98, 101, 103, 105, 110]⟩] w fun r w2 => r = .returned (.tuple #[.int .i64 60, .bool true]) ∧ Chg NoB w w2 := number_hit 59 3 [98, 101, 103, 105, 110] (by decide +kernel) w
theorem re_op_end (w : World) : Calls Tryz.prog 8 #[.string ⟨#[101, 110, 100]⟩] w fun r w2 => r = .returned (.tuple #[.int .i64 61, .bool true]) ∧ Chg NoB w w2 := number_hit 60 3 [101, 110, 100] (by decide +kernel) w
theorem re_op_undef (w : World) : Calls Tryz.prog 8 #[.string ⟨#[117, 110, 100, 101, 102]⟩] w fun r w2 => r = .returned (.tuple #[.int .i64 66, .bool true]) ∧ Chg NoB w w2 := number_hit 65 3 [117, 110, 100, 101, 102] (by decide +kernel) w
/-- The two lowest dictionaries, and the system's j times above. -/
def dsR (j : Nat) : List O := dsQ 2 ++ List.replicate j (dcn 0)
theorem dsR_length (j : Nat) : (dsR j).length = 2 + j := by simp [dsR, dsQ_length]
theorem dsR_succ (j : Nat) : dsR (j + 1) = dsR j ++ [dcn 0] := by simp [dsR, List.replicate_succ', List.append_assoc]
theorem sys_at : DicAt (hQ sysQ) 0 (dcellk true (sysK 162) 162) := (q_at sysQ sysQ_ok 0 (sysK 162, 162, true) rfl).1
theorem sys_dictE : dictE (hQ sysQ) (dcn 0) = 0 := q_dictE sysQ sysQ_ok 0 (by decide)
theorem op_not_x : opT.all (fun p => !(p.2 == [120])) = true := by decide +kernel
theorem getK_none (ps : List (O × O)) (k : O) (h : ∀ p ∈ ps, sameO p.1 k = false) : getK ps k = none := by
  induction ps with
  | nil => rfl
  | cons p ps ih =>
    unfold getK
    rw [if_neg (by rw [h p (List.mem_cons_self ..)]; decide), ih fun x hx => h x (List.mem_cons_of_mem _ hx)]
theorem sysK_miss (s : ByteArray) (h : ∀ k (_ : k < opT.length), opT[k].2 ≠ s.toList) : getK (sysK 162) (nameO s) = none := by
  refine getK_none _ _ fun p hp => ?_
  obtain ⟨i, hi, rfl⟩ := List.mem_map.1 hp
  have hi := List.mem_range.1 hi
  simp only
  rw [same_name]
  refine decide_eq_false fun e => ?_
  have hl : i < opT.length := by rw [opT_length]; exact hi
  refine h i hl ?_
  rw [← e, opN_nat, ByteArray.toList_eq]
  simp [List.getD_eq_getElem?_getD, hl]
abbrev kx : ByteArray := ⟨#[120]⟩
theorem sysK_x : getK (sysK 162) (nameO kx) = none := by
  refine sysK_miss kx fun k hk e => ?_
  have h1 := List.all_eq_true.1 op_not_x opT[k] (List.getElem_mem _)
  have h2 : kx.toList = [120] := by rw [ByteArray.toList_eq]
  rw [e, h2] at h1
  simp at h1
theorem sysK_some (m : Int) (h1 : 1 ≤ m) (h2 : m ≤ 162) : (getK (sysK 162) (nameO (opN m))).isSome = true := by
  obtain ⟨i, rfl⟩ : ∃ i : Nat, m = (i : Int) + 1 := ⟨(m - 1).toNat, by omega⟩
  rw [sysK_get 162 i (by omega) (Nat.le_refl _)]
  rfl
theorem opN_sizeI (m : Int) (h1 : 1 ≤ m) : (opN m).size ≤ 100 := by
  obtain ⟨i, rfl⟩ : ∃ i : Nat, m = (i : Int) + 1 := ⟨(m - 1).toNat, by omega⟩
  exact opN_size i
section
variable {w0 w : World} {K : List (Nat × Obj)} {cp hp sp : Nat} {l : List O}
theorem rt_begin (j : Nat) (hj : j < 18) (S : TabAt w0 w [(hp, hQ sysQ)] K cp hp sp (dsR j) (l ++ [dcn 0])) :
    Calls Tryz.prog 44 #[ptr hp, ptr cp, ptr sp, .int .i64 60] w fun r w' => r = .returned (.int .i64 0) ∧ TabAt w0 w' [(hp, hQ sysQ)] K cp hp sp (dsR (j + 1)) l := by
  have := td_begin (e := 0) (L' := hQ sysQ) (ds' := dsR (j + 1)) (dcn 0) S (isK_dict _) (held_one (fun _ => sys_at.may)) (fun w2 K2 S2 => S2.scp (fun K' S' => by
    rw [dsR_succ]
    exact scp_begin S' m0 _ sys_dictE (by rw [dsR_length]; omega) (by rw [dsR_length]; omega)))
  rwa [if_pos rfl] at this
theorem rt_beginE (S : TabAt w0 w [(hp, hQ sysQ)] K cp hp sp (dsR 18) (l ++ [dcn 0])) :
    Calls Tryz.prog 44 #[ptr hp, ptr cp, ptr sp, .int .i64 60] w fun r w' => r = .returned (.int .i64 11) ∧ TabAt w0 w' [(hp, hQ sysQ)] K cp hp sp (dsR 18) (l ++ [dcn 0]) := by
  have := td_begin (e := 11) (L' := hQ sysQ) (ds' := dsR 18) (dcn 0) S (isK_dict _) (held_one (fun _ => sys_at.may)) (fun w2 K2 S2 => S2.scp (fun K' S' => scp_beginE S' m0 _ sys_dictE (by rw [dsR_length])))
  rwa [if_neg (by decide)] at this
theorem rt_def (S : TabAt w0 w [(hp, hQ sysQ)] K cp hp sp (dsR 18) (l ++ [nameO kx, iO 1])) :
    Calls Tryz.prog 44 #[ptr hp, ptr cp, ptr sp, .int .i64 62] w fun r w' => r = .returned (.int .i64 1) ∧ TabAt w0 w' [(hp, hQ sysQ)] K cp hp sp (dsR 18) (l ++ [nameO kx, iO 1]) := by
  have := td_def (e := 1) (L' := hQ sysQ) (ds' := dsR 18) (nameO kx) (iO 1) S (isK_name _) (isK_any _ (.inl rfl)) (held_two (held_name _) (held_int 1)) (fun w2 K2 S2 => S2.scp (fun K' S' => by
    rw [dsR_succ] at S' ⊢
    exact scp_def S' (by rw [dsR_length]; omega) (nameO kx) (iO 1) (fun w3 K3 A => at_dsetFullLk A 0 (sysK 162) 162 sys_at (sysK_length 162) (by decide) (by rw [sysK_length]; decide) (nameO kx) (iO 1) (key_self _ kx (by decide)) (may_num _ _ (by omega) (by omega)) sysK_x)))
  rwa [if_neg (by decide)] at this
theorem rt_undef {ds : List O} (m : Int) (h1 : 1 ≤ m) (h2 : m ≤ 162) (S : TabAt w0 w [(hp, hQ sysQ)] K cp hp sp ds (l ++ [dcn 0, nameO (opN m)])) :
    Calls Tryz.prog 44 #[ptr hp, ptr cp, ptr sp, .int .i64 66] w fun r w' => r = .returned (.int .i64 1) ∧ TabAt w0 w' [(hp, hQ sysQ)] K cp hp sp ds (l ++ [dcn 0, nameO (opN m)]) := by
  have := td_undef (e := 1) (L' := hQ sysQ) (ds' := ds) (dcn 0) (nameO (opN m)) S (isK_dict _) (isK_name _) (held_two (fun _ => sys_at.may) (held_name _)) (fun w2 K2 S2 => S2.ask (fun K' A => at_ddropLk A 0 (sysK 162) 162 sys_at (by rw [sysK_length]; decide) (by decide) (by rw [sysK_length]; decide) (nameO (opN m)) (key_self _ _ (opN_sizeI m h1)) (sysK_some m h1 h2)))
  rwa [if_neg (by decide)] at this
end
end Go.Proofs.YtpgkjgceldleaaaGreat
/- TableRefuses: the walk. -/
namespace Go.Proofs.YtpgkjgceldleaaaGreat
open Go.RowKit

set_option maxRecDepth 100000 in
set_option maxHeartbeats 40000000 in
theorem tableRefuses_hit (s : ByteArray) (n : Int) (hs : s.size ≤ 100) (hn0 : 0 ≤ n) (hn1 : n < 256) (i : Nat) (hi : i < 162) (hsi : s = opN ((i : Int) + 1)) (HN : ∀ W, Calls Tryz.prog 8 #[.string s] W fun e w' => e = .returned (.tuple #[.int .i64 ((i : Int) + 1), .bool true]) ∧ Chg NoB W w') (w : World) :
    Calls Tryz.prog 5 #[.string s, .int .u8 n] w fun e w' => e = .returned (.bool true) ∧ Chg NoB w w' := by
    have HKN := hid' (known20_any w)
    have HN := hid' HN
    have hlk : lookN sysQ (nameO s) 2 = (opO ((i : Int) + 1), dcn 0, 0) := by rw [hsi]; exact look_op i hi
    obtain ⟨m, hm⟩ : ∃ m, 1 + n % 162 = m := ⟨_, rfl⟩
    have hm1 : 1 ≤ m := by omega
    have hm2 : m ≤ 162 := by omega
    have tm : n.tmod 162 = n % 162 := Int.tmod_eq_emod_of_nonneg hn0
    have v1 := IntWalk.i64_in n (by omega)
    have v2 := IntWalk.i64_in (n % 162) (by omega)
    have v3 := IntWalk.i64_in m (by omega)
    obtain ⟨x1, hx1⟩ : ∃ x : TX, x = (hQ sysQ, dsQ 2, [(opO ((i : Int) + 1))]) := ⟨_, rfl⟩
    obtain ⟨x0, hx0⟩ : ∃ x : TX, x = (hQ sysQ, dsQ 2, []) := ⟨_, rfl⟩
    obtain ⟨x3, hx3⟩ : ∃ x : TX, x = (hQ sysQ, dsQ 2, [dcn 0, nameO (opN m)]) := ⟨_, rfl⟩
    obtain ⟨xr, hxr⟩ : ∃ x : Nat → TX, x = fun j => (hQ sysQ, dsR j, []) := ⟨_, rfl⟩
    obtain ⟨xs, hxs⟩ : ∃ x : TX, x = (hQ sysQ, dsR 18, [dcn 0]) := ⟨_, rfl⟩
    obtain ⟨xe, hxe⟩ : ∃ x : TX, x = (hQ sysQ, dsR 18, [dcn 0, nameO kx, iO 1]) := ⟨_, rfl⟩
    have HLD : Hid (∀ hp cp sp gp tp dv KB W, TQ w hp cp sp KB x0 W → Calls Tryz.prog 10 #[xVal hp cp sp gp dv tp, .string ⟨#[108, 111, 97, 100]⟩, .slice (some ⟨W.heap.size, 0, none⟩) 1 1] (W.alloc (Obj.cells #[.int .i64 5, .bool false, .int .i64 0, .int .i64 0, .int .i64 0, .string s] 38)) fun r w' => r = .returned (.int .i64 0) ∧ TQ w hp cp sp KB x1 w') := hid' (by
      rw [hx0, hx1]; exact fun hp cp sp gp tp dv KB W => TQ.doing [nameO s] 1 rfl (by simp) (fun o h => by rw [List.mem_singleton.1 h]; exact name_may s hs) _ 63 0 true op_load20 (fun w' K' S' => qt_load (l := []) sysQ sysQ_ok 2 (by decide) (by decide) s hs hlk (by have := may_op [] ((i : Int) + 1) (by omega) (by omega); simp [mayH] at this; exact this.1) S') _ rfl W)
    have HLE : Hid (∀ hp cp sp KB W, TQ w hp cp sp KB x1 W → Calls Tryz.prog 14 #[ptr sp] W fun r w' => r = .returned (.int .i64 1) ∧ TQ w hp cp sp KB x1 w') := hid' (by rw [hx1]; exact fun hp cp sp KB W => TQ.len 1 rfl W)
    have HC1 : Hid (∀ hp cp sp KB W, TQ w hp cp sp KB x1 W → Calls Tryz.prog 20 #[ptr sp] W fun r w' => r = .returned (.tuple #[]) ∧ TQ w hp cp sp KB x0 w') := hid' (by rw [hx1, hx0]; exact fun hp cp sp KB W => TQ.clear rfl W)
    have HUD : Hid (∀ hp cp sp gp tp dv KB W, TQ w hp cp sp KB x0 W → Calls Tryz.prog 10 #[xVal hp cp sp gp dv tp, .string ⟨#[117, 110, 100, 101, 102]⟩, .slice (some ⟨W.heap.size, 0, none⟩) 2 2] (W.alloc (Obj.cells #[.int .i64 10, .bool false, .int .i64 0, .int .i64 0, .int .i64 0, .string ⟨#[]⟩, .int .i64 5, .bool false, .int .i64 0, .int .i64 0, .int .i64 0, .string (opN m)] 38)) fun r w' => r = .returned (.int .i64 1) ∧ TQ w hp cp sp KB x3 w') := hid' (by
      rw [hx0, hx3]; exact fun hp cp sp gp tp dv KB W => TQ.doing [dcn 0, nameO (opN m)] 2 rfl (by simp) (fun o h => by
        simp only [List.mem_cons, List.not_mem_nil, or_false] at h
        rcases h with rfl | rfl
        · decide +kernel
        · exact name_may _ (opN_sizeI m hm1)) _ 66 1 true re_op_undef (fun w' K' S' => rt_undef (l := []) m hm1 hm2 S') _ rfl W)
    have HC3 : Hid (∀ hp cp sp KB W, TQ w hp cp sp KB x3 W → Calls Tryz.prog 20 #[ptr sp] W fun r w' => r = .returned (.tuple #[]) ∧ TQ w hp cp sp KB x0 w') := hid' (by rw [hx3, hx0]; exact fun hp cp sp KB W => TQ.clear rfl W)
    have HEN : Hid (∀ hp cp sp gp tp dv KB W, TQ w hp cp sp KB x0 W → Calls Tryz.prog 10 #[xVal hp cp sp gp dv tp, .string ⟨#[101, 110, 100]⟩, .slice none 0 0] W fun r w' => r = .returned (.int .i64 11) ∧ TQ w hp cp sp KB x0 w') := hid' (by
      rw [hx0]; exact fun hp cp sp gp tp dv KB W => TQ.doing0 _ 61 11 true (by simp) re_op_end (fun w' K' S' => qt_endE (dsQ_length 2) S') W)
    have HB : Hid (∀ j, j < 18 → ∀ hp cp sp gp tp dv KB W, TQ w hp cp sp KB (xr j) W → Calls Tryz.prog 10 #[xVal hp cp sp gp dv tp, .string ⟨#[98, 101, 103, 105, 110]⟩, .slice (some ⟨W.heap.size, 0, none⟩) 1 1] (W.alloc (Obj.cells #[.int .i64 10, .bool false, .int .i64 0, .int .i64 0, .int .i64 0, .string ⟨#[]⟩] 38)) fun r w' => r = .returned (.int .i64 0) ∧ TQ w hp cp sp KB (xr (j + 1)) w') := hid' (by
      rw [hxr]; exact fun j hj hp cp sp gp tp dv KB W => TQ.doing [dcn 0] 1 rfl (by simp) (fun o h => by rw [List.mem_singleton.1 h]; decide +kernel) _ 60 0 true re_op_begin (fun w' K' S' => rt_begin (l := []) j hj S') _ rfl W)
    have HBE : Hid (∀ hp cp sp gp tp dv KB W, TQ w hp cp sp KB (xr 18) W → Calls Tryz.prog 10 #[xVal hp cp sp gp dv tp, .string ⟨#[98, 101, 103, 105, 110]⟩, .slice (some ⟨W.heap.size, 0, none⟩) 1 1] (W.alloc (Obj.cells #[.int .i64 10, .bool false, .int .i64 0, .int .i64 0, .int .i64 0, .string ⟨#[]⟩] 38)) fun r w' => r = .returned (.int .i64 11) ∧ TQ w hp cp sp KB xs w') := hid' (by
      rw [hxr, hxs]; exact fun hp cp sp gp tp dv KB W => TQ.doing [dcn 0] 1 rfl (by simp) (fun o h => by rw [List.mem_singleton.1 h]; decide +kernel) _ 60 11 true re_op_begin (fun w' K' S' => rt_beginE (l := []) S') _ rfl W)
    have HDP : Hid (∀ hp cp sp KB W, TQ w hp cp sp KB xs W → Calls Tryz.prog 23 #[ptr cp] W fun r w' => r = .returned (.int .i64 20) ∧ TQ w hp cp sp KB xs w') := hid' (by rw [hxs]; exact fun hp cp sp KB W => TQ.depth 20 (by show ((dsR 18).length : Int) = 20; rw [dsR_length]; rfl) W)
    have HDF : Hid (∀ hp cp sp gp tp dv KB W, TQ w hp cp sp KB xs W → Calls Tryz.prog 10 #[xVal hp cp sp gp dv tp, .string ⟨#[100, 101, 102]⟩, .slice (some ⟨W.heap.size, 0, none⟩) 2 2] (W.alloc (Obj.cells #[.int .i64 5, .bool false, .int .i64 0, .int .i64 0, .int .i64 0, .string ⟨#[120]⟩, .int .i64 3, .bool false, .int .i64 1, .int .i64 0, .int .i64 0, .string ⟨#[]⟩] 38)) fun r w' => r = .returned (.int .i64 1) ∧ TQ w hp cp sp KB xe w') := hid' (by
      rw [hxs, hxe]; exact fun hp cp sp gp tp dv KB W => TQ.doing [nameO kx, iO 1] 2 rfl (by simp) (fun o h => by
        simp only [List.mem_cons, List.not_mem_nil, or_false] at h
        rcases h with rfl | rfl
        · exact name_may _ (by decide)
        · exact may_iO _ (by omega) (by omega)) _ 62 1 true op_def20 (fun w' K' S' => rt_def (l := [dcn 0]) S') _ rfl W)
    have HR0 : Hid (xr 0 = x0) := hid' (by rw [hxr, hx0]; simp [dsR])
    have HX0 := hid' hx0
    have c100 : ¬ (100 : Int) < s.size := by omega
    clear hx0 hx1 hx3 hxr hxs hxe hlk hs hsi
    go_enter Tryz.func5, Tryz.ntmps5
    go_wp2_with fail
    refine HKN.out.mono ?_
    rintro r w1 ⟨rfl, X1⟩
    go_wp2_with fail
    refine (TQ.fresh w1 X1).mono ?_
    rintro r w7 ⟨hp, cp, sp, gp, x, tp, rfl, S1⟩
    have S1 : TQ w hp cp sp [] x0 w7 := by rw [HX0.out]; exact S1
    clear HKN X1 HX0
    have S2 := S1.alloc (xBox hp cp sp gp (.pointer x) tp)
    generalize hg : w7.heap.size = g2 at *
    go_upto_region 6 with (fail)
    generalize hW : w7.alloc _ = w3 at *
    clear hW hg S1
    obtain ⟨K1, hK1⟩ : ∃ K', K' = [(g2, xBox hp cp sp gp (.pointer x) tp)] := ⟨_, rfl⟩
    have nW : (g2, xBox hp cp sp gp (.pointer x) tp) ∈ K1 := by rw [hK1]; exact m0
    rw [← hK1] at S2
    clear hK1
    go_wp2_with fail
    refine (HN.out _).mono ?_
    rintro r w4 ⟨rfl, X4⟩
    have S3 := S2.pure X4
    clear S2 X4 HN
    go_upto_region 7 with (fail)
    have Q_nW := TQY.cells (w0 := w) (hp := hp) (cp := cp) (sp := sp) nW
    have l_nW := blk_lt (S3.box _ nW)
    simp only at l_nW
    have hS1 : TQY w hp cp sp K1 _ := TQY.of S3
    have HS := hid' S3
    have HNU : Hid (∀ x v W, TQ w hp cp sp K1 x W → Calls Tryz.prog 12 #[.int .i64 v] W fun e w' => e = .returned (iO v).val ∧ TQ w hp cp sp K1 x w') := hid' (fun x v => TQ.num v)
    have HNA : Hid (∀ x s W, TQ w hp cp sp K1 x W → Calls Tryz.prog 11 #[.string s] W fun e w' => e = .returned (nameO s).val ∧ TQ w hp cp sp K1 x w') := hid' (fun x s => TQ.name s)
    clear S3
    go_region_held3 (fun W' => TQY w hp cp sp K1 W') (first | (with_reducible assumption) | (with_reducible exact TQY.alloc (by with_reducible assumption) _) | (with_reducible exact TQY.drew (by with_reducible assumption)) | (with_reducible exact TQY.drew (TQY.alloc (by with_reducible assumption) _)))
      (first
        | (go_at_call 12; refine (HNU.out _ _ _ (by first | with_reducible assumption | (with_reducible exact HS.out.drew))).mono ?_; rintro r w7 ⟨rfl, S6⟩; have hY := TQY.of S6)
        | (go_at_call 11; refine (HNA.out _ _ _ (by first | with_reducible assumption | (with_reducible exact HS.out.drew))).mono ?_; rintro r w7 ⟨rfl, S6⟩; have hY := TQY.of S6)
        | (go_at_call 10; refine (HLD.out _ _ _ _ _ _ _ _ (by first | with_reducible assumption | (with_reducible exact HS.out.drew))).mono ?_; rintro r w7 ⟨rfl, S6⟩; have hY := TQY.of S6))
    clear hS1 HS HNU HNA Q_nW l_nW
    clear HLD
    go_upto_region 8 with (fail)
    (try clear Rw); (try clear yw); (try clear Zw)
    have Rw := cells_of (S6.box _ nW)
    have yw := blk_lt (S6.box _ nW)
    (try simp only at Rw yw)
    go_wp2_with fail
    refine (HC1.out _ _ _ _ _ S6).mono ?_
    rintro r w9 ⟨rfl, S8⟩
    clear S6
    clear HLE HC1 Rw yw
    have S9 := S8.alloc (Obj.cells #[.int .i64 10, .bool false, .int .i64 0, .int .i64 0, .int .i64 0, .string ⟨#[]⟩] 38)
    generalize hg : w9.heap.size = g9 at *
    go_upto_region 12 with (fail)
    generalize hW : w9.alloc _ = w10 at *
    clear hW hg S8
    obtain ⟨K2, hK2⟩ : ∃ K', K' = (g9, Obj.cells #[.int .i64 10, .bool false, .int .i64 0, .int .i64 0, .int .i64 0, .string ⟨#[]⟩] 38) :: K1 := ⟨_, rfl⟩
    have n9 : (g9, Obj.cells #[.int .i64 10, .bool false, .int .i64 0, .int .i64 0, .int .i64 0, .string ⟨#[]⟩] 38) ∈ K2 := by rw [hK2]; exact m0
    have nW : (g2, xBox hp cp sp gp (.pointer x) tp) ∈ K2 := by rw [hK2]; exact List.mem_cons_of_mem _ nW
    rw [← hK2] at S9
    clear hK2
    have Q_nW := TQY.cells (w0 := w) (hp := hp) (cp := cp) (sp := sp) nW
    have l_nW := blk_lt (S9.box _ nW)
    simp only at l_nW
    have Q_n9 := TQY.cells (w0 := w) (hp := hp) (cp := cp) (sp := sp) n9
    have l_n9 := blk_lt (S9.box _ n9)
    simp only at l_n9
    have hS1 : TQY w hp cp sp K2 _ := TQY.of S9
    have HS := hid' S9
    have HNU : Hid (∀ x v W, TQ w hp cp sp K2 x W → Calls Tryz.prog 12 #[.int .i64 v] W fun e w' => e = .returned (iO v).val ∧ TQ w hp cp sp K2 x w') := hid' (fun x v => TQ.num v)
    have HNA : Hid (∀ x s W, TQ w hp cp sp K2 x W → Calls Tryz.prog 11 #[.string s] W fun e w' => e = .returned (nameO s).val ∧ TQ w hp cp sp K2 x w') := hid' (fun x s => TQ.name s)
    clear S9
    have HC : Hid (∀ x W, TQ w hp cp sp K2 x W → Calls Tryz.prog 22 #[] W fun r w' => r = .returned (.int .i64 162) ∧ TQ w hp cp sp K2 x w') := hid' (fun x W S => (count_any W).mono fun _ _ h => ⟨h.1, S.pure h.2⟩)
    have HM : Hid (∀ x W, TQ w hp cp sp K2 x W → Calls Tryz.prog 21 #[.int .i64 m] W fun r w' => r = .returned (.string (opN m)) ∧ TQ w hp cp sp K2 x w') := hid' (fun x W S => (name_any m hm1 hm2 W).mono fun _ _ h => ⟨h.1, S.pure h.2⟩)
    clear hm1 hm2
    go_region_held3 (fun W' => TQY w hp cp sp K2 W') (first | (with_reducible assumption) | (with_reducible exact TQY.alloc (by with_reducible assumption) _) | (with_reducible exact TQY.drew (by with_reducible assumption)) | (with_reducible exact TQY.drew (TQY.alloc (by with_reducible assumption) _)))
      (first
        | (go_at_call 12; refine (HNU.out _ _ _ (by first | with_reducible assumption | (with_reducible exact HS.out.drew))).mono ?_; rintro r w7 ⟨rfl, S6⟩; have hY := TQY.of S6)
        | (go_at_call 11; refine (HNA.out _ _ _ (by first | with_reducible assumption | (with_reducible exact HS.out.drew))).mono ?_; rintro r w7 ⟨rfl, S6⟩; have hY := TQY.of S6)
        | (go_at_call 22; refine (HC.out _ _ (by first | with_reducible assumption | (with_reducible exact HS.out.drew))).mono ?_; rintro r w7 ⟨rfl, S6⟩; have hY := TQY.of S6)
        | (go_at_call 21; refine (HM.out _ _ (by first | with_reducible assumption | (with_reducible exact HS.out.drew))).mono ?_; rintro r w7 ⟨rfl, S6⟩; have hY := TQY.of S6)
        | (go_at_call 10; refine (HUD.out _ _ _ _ _ _ _ _ (by first | with_reducible assumption | (with_reducible exact HS.out.drew))).mono ?_; rintro r w7 ⟨rfl, S6⟩; have hY := TQY.of S6))
    clear hS1 HS HNU HNA Q_nW l_nW Q_n9 l_n9
    clear HUD HC HM
    go_upto_region 13 with (fail)
    (try clear Rw); (try clear yw); (try clear Zw)
    have Rw := cells_of (S6.box _ nW)
    have yw := blk_lt (S6.box _ nW)
    (try simp only at Rw yw)
    go_wp2_with fail
    refine (HC3.out _ _ _ _ _ S6).mono ?_
    rintro r w8 ⟨rfl, S7⟩
    clear S6 HC3
    (try clear Rw); (try clear yw); (try clear Zw)
    have Rw := cells_of (S7.box _ nW)
    have yw := blk_lt (S7.box _ nW)
    (try simp only at Rw yw)
    go_wp2_with fail
    refine (HEN.out _ _ _ _ _ _ _ _ S7).mono ?_
    rintro r w9 ⟨rfl, S8⟩
    clear S7 HEN Rw yw
    go_wp2_with fail
    go_loopw [12] (fun iv wr => ∃ j : Nat, j ≤ 18 ∧ iv = .int .i64 ((j : Int) + 2) ∧ TQ w hp cp sp K2 (xr j) wr) (fun iv _ => 20 - (intOf iv).toNat)
    case atStart => exact ⟨0, by omega, rfl, by rw [HR0.out]; exact S8⟩
    case round =>
    obtain ⟨j, hj, rfl, S9⟩ := hrel
    clear S8
    by_cases hlt : j < 18
    · have hlt' : (j : Int) + 2 < 20 := by omega
      (try clear Rw); (try clear yw); (try clear Zw)
      have Rw := cells_of (S9.box _ nW)
      have yw := blk_lt (S9.box _ nW)
      (try clear Rd); (try clear yd); (try clear Zd)
      have Rd := cells_of (S9.box _ n9)
      have yd := blk_lt (S9.box _ n9)
      (try simp only at Rw yw Rd yd)
      go_wp2_with fail
      refine (HB.out j hlt _ _ _ _ _ _ _ _ S9).mono ?_
      rintro r w10 ⟨rfl, S10⟩
      go_wp2_with fail
      go_roundw
      case rel => exact ⟨j + 1, by omega, by go_num, S10⟩
      case measure => simp [intOf]; omega
    obtain rfl : j = 18 := by omega
    clear hlt HB
    (try clear Rw); (try clear yw); (try clear Zw)
    have Rw := cells_of (S9.box _ nW)
    have yw := blk_lt (S9.box _ nW)
    (try clear Rd); (try clear yd); (try clear Zd)
    have Rd := cells_of (S9.box _ n9)
    have yd := blk_lt (S9.box _ n9)
    (try simp only at Rw yw Rd yd)
    go_wp2_with fail
    refine (HBE.out _ _ _ _ _ _ _ _ S9).mono ?_
    rintro r w10 ⟨rfl, S10⟩
    clear S9 HBE Rw yw Rd yd
    go_upto_region 21 with (fail)
    have Q_nW := TQY.cells (w0 := w) (hp := hp) (cp := cp) (sp := sp) nW
    have l_nW := blk_lt (S10.box _ nW)
    simp only at l_nW
    have hS1 : TQY w hp cp sp K2 _ := TQY.of S10
    have HS := hid' S10
    have HNU : Hid (∀ x v W, TQ w hp cp sp K2 x W → Calls Tryz.prog 12 #[.int .i64 v] W fun e w' => e = .returned (iO v).val ∧ TQ w hp cp sp K2 x w') := hid' (fun x v => TQ.num v)
    have HNA : Hid (∀ x s W, TQ w hp cp sp K2 x W → Calls Tryz.prog 11 #[.string s] W fun e w' => e = .returned (nameO s).val ∧ TQ w hp cp sp K2 x w') := hid' (fun x s => TQ.name s)
    clear S10
    go_region_held3 (fun W' => TQY w hp cp sp K2 W') (first | (with_reducible assumption) | (with_reducible exact TQY.alloc (by with_reducible assumption) _) | (with_reducible exact TQY.drew (by with_reducible assumption)) | (with_reducible exact TQY.drew (TQY.alloc (by with_reducible assumption) _)))
      (first
        | (go_at_call 12; refine (HNU.out _ _ _ (by first | with_reducible assumption | (with_reducible exact HS.out.drew))).mono ?_; rintro r w7 ⟨rfl, S6⟩; have hY := TQY.of S6)
        | (go_at_call 11; refine (HNA.out _ _ _ (by first | with_reducible assumption | (with_reducible exact HS.out.drew))).mono ?_; rintro r w7 ⟨rfl, S6⟩; have hY := TQY.of S6)
        | (go_at_call 23; refine (HDP.out _ _ _ _ _ (by first | with_reducible assumption | (with_reducible exact HS.out.drew))).mono ?_; rintro r w7 ⟨rfl, S6⟩; have hY := TQY.of S6)
        | (go_at_call 10; refine (HDF.out _ _ _ _ _ _ _ _ (by first | with_reducible assumption | (with_reducible exact HS.out.drew))).mono ?_; rintro r w7 ⟨rfl, S6⟩; have hY := TQY.of S6))
    clear hS1 HS HNU HNA Q_nW l_nW
    go_wp2_with fail
    go_ret
    exact ⟨rfl, S6.chg⟩
set_option maxRecDepth 100000 in
set_option maxHeartbeats 40000000 in
theorem tableRefuses_miss (s : ByteArray) (n : Int) (hs : s.size ≤ 100) (hn0 : 0 ≤ n) (hn1 : n < 256) (hmiss : ∀ k (_ : k < opT.length), opT[k].2 ≠ s.toList) (HN : ∀ W, Calls Tryz.prog 8 #[.string s] W fun e w' => e = .returned (.tuple #[.int .i64 0, .bool false]) ∧ Chg NoB W w') (w : World) :
    Calls Tryz.prog 5 #[.string s, .int .u8 n] w fun e w' => e = .returned (.bool true) ∧ Chg NoB w w' := by
    have HKN := hid' (known20_any w)
    have HN := hid' HN
    have hlk : lookN sysQ (nameO s) 2 = (O.nil, O.nil, 9) := by rw [look_sys, sysK_miss s hmiss]
    obtain ⟨m, hm⟩ : ∃ m, 1 + n % 162 = m := ⟨_, rfl⟩
    have hm1 : 1 ≤ m := by omega
    have hm2 : m ≤ 162 := by omega
    have tm : n.tmod 162 = n % 162 := Int.tmod_eq_emod_of_nonneg hn0
    have v1 := IntWalk.i64_in n (by omega)
    have v2 := IntWalk.i64_in (n % 162) (by omega)
    have v3 := IntWalk.i64_in m (by omega)
    obtain ⟨x1, hx1⟩ : ∃ x : TX, x = (hQ sysQ, dsQ 2, [(nameO s)]) := ⟨_, rfl⟩
    obtain ⟨x0, hx0⟩ : ∃ x : TX, x = (hQ sysQ, dsQ 2, []) := ⟨_, rfl⟩
    obtain ⟨x3, hx3⟩ : ∃ x : TX, x = (hQ sysQ, dsQ 2, [dcn 0, nameO (opN m)]) := ⟨_, rfl⟩
    obtain ⟨xr, hxr⟩ : ∃ x : Nat → TX, x = fun j => (hQ sysQ, dsR j, []) := ⟨_, rfl⟩
    obtain ⟨xs, hxs⟩ : ∃ x : TX, x = (hQ sysQ, dsR 18, [dcn 0]) := ⟨_, rfl⟩
    obtain ⟨xe, hxe⟩ : ∃ x : TX, x = (hQ sysQ, dsR 18, [dcn 0, nameO kx, iO 1]) := ⟨_, rfl⟩
    have HLD : Hid (∀ hp cp sp gp tp dv KB W, TQ w hp cp sp KB x0 W → Calls Tryz.prog 10 #[xVal hp cp sp gp dv tp, .string ⟨#[108, 111, 97, 100]⟩, .slice (some ⟨W.heap.size, 0, none⟩) 1 1] (W.alloc (Obj.cells #[.int .i64 5, .bool false, .int .i64 0, .int .i64 0, .int .i64 0, .string s] 38)) fun r w' => r = .returned (.int .i64 9) ∧ TQ w hp cp sp KB x1 w') := hid' (by
      rw [hx0, hx1]; exact fun hp cp sp gp tp dv KB W => TQ.doing [nameO s] 1 rfl (by simp) (fun o h => by rw [List.mem_singleton.1 h]; exact name_may s hs) _ 63 9 true op_load20 (fun w' K' S' => qt_loadE (l := []) sysQ sysQ_ok 2 (by decide) (by decide) s hs hlk S') _ rfl W)
    have HLE : Hid (∀ hp cp sp KB W, TQ w hp cp sp KB x1 W → Calls Tryz.prog 14 #[ptr sp] W fun r w' => r = .returned (.int .i64 1) ∧ TQ w hp cp sp KB x1 w') := hid' (by rw [hx1]; exact fun hp cp sp KB W => TQ.len 1 rfl W)
    have HC1 : Hid (∀ hp cp sp KB W, TQ w hp cp sp KB x1 W → Calls Tryz.prog 20 #[ptr sp] W fun r w' => r = .returned (.tuple #[]) ∧ TQ w hp cp sp KB x0 w') := hid' (by rw [hx1, hx0]; exact fun hp cp sp KB W => TQ.clear rfl W)
    have HUD : Hid (∀ hp cp sp gp tp dv KB W, TQ w hp cp sp KB x0 W → Calls Tryz.prog 10 #[xVal hp cp sp gp dv tp, .string ⟨#[117, 110, 100, 101, 102]⟩, .slice (some ⟨W.heap.size, 0, none⟩) 2 2] (W.alloc (Obj.cells #[.int .i64 10, .bool false, .int .i64 0, .int .i64 0, .int .i64 0, .string ⟨#[]⟩, .int .i64 5, .bool false, .int .i64 0, .int .i64 0, .int .i64 0, .string (opN m)] 38)) fun r w' => r = .returned (.int .i64 1) ∧ TQ w hp cp sp KB x3 w') := hid' (by
      rw [hx0, hx3]; exact fun hp cp sp gp tp dv KB W => TQ.doing [dcn 0, nameO (opN m)] 2 rfl (by simp) (fun o h => by
        simp only [List.mem_cons, List.not_mem_nil, or_false] at h
        rcases h with rfl | rfl
        · decide +kernel
        · exact name_may _ (opN_sizeI m hm1)) _ 66 1 true re_op_undef (fun w' K' S' => rt_undef (l := []) m hm1 hm2 S') _ rfl W)
    have HC3 : Hid (∀ hp cp sp KB W, TQ w hp cp sp KB x3 W → Calls Tryz.prog 20 #[ptr sp] W fun r w' => r = .returned (.tuple #[]) ∧ TQ w hp cp sp KB x0 w') := hid' (by rw [hx3, hx0]; exact fun hp cp sp KB W => TQ.clear rfl W)
    have HEN : Hid (∀ hp cp sp gp tp dv KB W, TQ w hp cp sp KB x0 W → Calls Tryz.prog 10 #[xVal hp cp sp gp dv tp, .string ⟨#[101, 110, 100]⟩, .slice none 0 0] W fun r w' => r = .returned (.int .i64 11) ∧ TQ w hp cp sp KB x0 w') := hid' (by
      rw [hx0]; exact fun hp cp sp gp tp dv KB W => TQ.doing0 _ 61 11 true (by simp) re_op_end (fun w' K' S' => qt_endE (dsQ_length 2) S') W)
    have HB : Hid (∀ j, j < 18 → ∀ hp cp sp gp tp dv KB W, TQ w hp cp sp KB (xr j) W → Calls Tryz.prog 10 #[xVal hp cp sp gp dv tp, .string ⟨#[98, 101, 103, 105, 110]⟩, .slice (some ⟨W.heap.size, 0, none⟩) 1 1] (W.alloc (Obj.cells #[.int .i64 10, .bool false, .int .i64 0, .int .i64 0, .int .i64 0, .string ⟨#[]⟩] 38)) fun r w' => r = .returned (.int .i64 0) ∧ TQ w hp cp sp KB (xr (j + 1)) w') := hid' (by
      rw [hxr]; exact fun j hj hp cp sp gp tp dv KB W => TQ.doing [dcn 0] 1 rfl (by simp) (fun o h => by rw [List.mem_singleton.1 h]; decide +kernel) _ 60 0 true re_op_begin (fun w' K' S' => rt_begin (l := []) j hj S') _ rfl W)
    have HBE : Hid (∀ hp cp sp gp tp dv KB W, TQ w hp cp sp KB (xr 18) W → Calls Tryz.prog 10 #[xVal hp cp sp gp dv tp, .string ⟨#[98, 101, 103, 105, 110]⟩, .slice (some ⟨W.heap.size, 0, none⟩) 1 1] (W.alloc (Obj.cells #[.int .i64 10, .bool false, .int .i64 0, .int .i64 0, .int .i64 0, .string ⟨#[]⟩] 38)) fun r w' => r = .returned (.int .i64 11) ∧ TQ w hp cp sp KB xs w') := hid' (by
      rw [hxr, hxs]; exact fun hp cp sp gp tp dv KB W => TQ.doing [dcn 0] 1 rfl (by simp) (fun o h => by rw [List.mem_singleton.1 h]; decide +kernel) _ 60 11 true re_op_begin (fun w' K' S' => rt_beginE (l := []) S') _ rfl W)
    have HDP : Hid (∀ hp cp sp KB W, TQ w hp cp sp KB xs W → Calls Tryz.prog 23 #[ptr cp] W fun r w' => r = .returned (.int .i64 20) ∧ TQ w hp cp sp KB xs w') := hid' (by rw [hxs]; exact fun hp cp sp KB W => TQ.depth 20 (by show ((dsR 18).length : Int) = 20; rw [dsR_length]; rfl) W)
    have HDF : Hid (∀ hp cp sp gp tp dv KB W, TQ w hp cp sp KB xs W → Calls Tryz.prog 10 #[xVal hp cp sp gp dv tp, .string ⟨#[100, 101, 102]⟩, .slice (some ⟨W.heap.size, 0, none⟩) 2 2] (W.alloc (Obj.cells #[.int .i64 5, .bool false, .int .i64 0, .int .i64 0, .int .i64 0, .string ⟨#[120]⟩, .int .i64 3, .bool false, .int .i64 1, .int .i64 0, .int .i64 0, .string ⟨#[]⟩] 38)) fun r w' => r = .returned (.int .i64 1) ∧ TQ w hp cp sp KB xe w') := hid' (by
      rw [hxs, hxe]; exact fun hp cp sp gp tp dv KB W => TQ.doing [nameO kx, iO 1] 2 rfl (by simp) (fun o h => by
        simp only [List.mem_cons, List.not_mem_nil, or_false] at h
        rcases h with rfl | rfl
        · exact name_may _ (by decide)
        · exact may_iO _ (by omega) (by omega)) _ 62 1 true op_def20 (fun w' K' S' => rt_def (l := [dcn 0]) S') _ rfl W)
    have HR0 : Hid (xr 0 = x0) := hid' (by rw [hxr, hx0]; simp [dsR])
    have HX0 := hid' hx0
    have c100 : ¬ (100 : Int) < s.size := by omega
    clear hx0 hx1 hx3 hxr hxs hxe hlk hs hmiss
    go_enter Tryz.func5, Tryz.ntmps5
    go_wp2_with fail
    refine HKN.out.mono ?_
    rintro r w1 ⟨rfl, X1⟩
    go_wp2_with fail
    refine (TQ.fresh w1 X1).mono ?_
    rintro r w7 ⟨hp, cp, sp, gp, x, tp, rfl, S1⟩
    have S1 : TQ w hp cp sp [] x0 w7 := by rw [HX0.out]; exact S1
    clear HKN X1 HX0
    have S2 := S1.alloc (xBox hp cp sp gp (.pointer x) tp)
    generalize hg : w7.heap.size = g2 at *
    go_upto_region 6 with (fail)
    generalize hW : w7.alloc _ = w3 at *
    clear hW hg S1
    obtain ⟨K1, hK1⟩ : ∃ K', K' = [(g2, xBox hp cp sp gp (.pointer x) tp)] := ⟨_, rfl⟩
    have nW : (g2, xBox hp cp sp gp (.pointer x) tp) ∈ K1 := by rw [hK1]; exact m0
    rw [← hK1] at S2
    clear hK1
    go_wp2_with fail
    refine (HN.out _).mono ?_
    rintro r w4 ⟨rfl, X4⟩
    have S3 := S2.pure X4
    clear S2 X4 HN
    go_upto_region 7 with (fail)
    have Q_nW := TQY.cells (w0 := w) (hp := hp) (cp := cp) (sp := sp) nW
    have l_nW := blk_lt (S3.box _ nW)
    simp only at l_nW
    have hS1 : TQY w hp cp sp K1 _ := TQY.of S3
    have HS := hid' S3
    have HNU : Hid (∀ x v W, TQ w hp cp sp K1 x W → Calls Tryz.prog 12 #[.int .i64 v] W fun e w' => e = .returned (iO v).val ∧ TQ w hp cp sp K1 x w') := hid' (fun x v => TQ.num v)
    have HNA : Hid (∀ x s W, TQ w hp cp sp K1 x W → Calls Tryz.prog 11 #[.string s] W fun e w' => e = .returned (nameO s).val ∧ TQ w hp cp sp K1 x w') := hid' (fun x s => TQ.name s)
    clear S3
    go_region_held3 (fun W' => TQY w hp cp sp K1 W') (first | (with_reducible assumption) | (with_reducible exact TQY.alloc (by with_reducible assumption) _) | (with_reducible exact TQY.drew (by with_reducible assumption)) | (with_reducible exact TQY.drew (TQY.alloc (by with_reducible assumption) _)))
      (first
        | (go_at_call 12; refine (HNU.out _ _ _ (by first | with_reducible assumption | (with_reducible exact HS.out.drew))).mono ?_; rintro r w7 ⟨rfl, S6⟩; have hY := TQY.of S6)
        | (go_at_call 11; refine (HNA.out _ _ _ (by first | with_reducible assumption | (with_reducible exact HS.out.drew))).mono ?_; rintro r w7 ⟨rfl, S6⟩; have hY := TQY.of S6)
        | (go_at_call 10; refine (HLD.out _ _ _ _ _ _ _ _ (by first | with_reducible assumption | (with_reducible exact HS.out.drew))).mono ?_; rintro r w7 ⟨rfl, S6⟩; have hY := TQY.of S6))
    clear hS1 HS HNU HNA Q_nW l_nW
    clear HLD
    go_upto_region 8 with (fail)
    (try clear Rw); (try clear yw); (try clear Zw)
    have Rw := cells_of (S6.box _ nW)
    have yw := blk_lt (S6.box _ nW)
    (try simp only at Rw yw)
    go_wp2_with fail
    refine (HLE.out _ _ _ _ _ S6).mono ?_
    rintro r w8 ⟨rfl, S7⟩
    clear S6
    (try clear Rw); (try clear yw); (try clear Zw)
    have Rw := cells_of (S7.box _ nW)
    have yw := blk_lt (S7.box _ nW)
    (try simp only at Rw yw)
    go_wp2_with fail
    refine (HC1.out _ _ _ _ _ S7).mono ?_
    rintro r w9 ⟨rfl, S8⟩
    clear S7
    clear HLE HC1 Rw yw
    have S9 := S8.alloc (Obj.cells #[.int .i64 10, .bool false, .int .i64 0, .int .i64 0, .int .i64 0, .string ⟨#[]⟩] 38)
    generalize hg : w9.heap.size = g9 at *
    go_upto_region 12 with (fail)
    generalize hW : w9.alloc _ = w10 at *
    clear hW hg S8
    obtain ⟨K2, hK2⟩ : ∃ K', K' = (g9, Obj.cells #[.int .i64 10, .bool false, .int .i64 0, .int .i64 0, .int .i64 0, .string ⟨#[]⟩] 38) :: K1 := ⟨_, rfl⟩
    have n9 : (g9, Obj.cells #[.int .i64 10, .bool false, .int .i64 0, .int .i64 0, .int .i64 0, .string ⟨#[]⟩] 38) ∈ K2 := by rw [hK2]; exact m0
    have nW : (g2, xBox hp cp sp gp (.pointer x) tp) ∈ K2 := by rw [hK2]; exact List.mem_cons_of_mem _ nW
    rw [← hK2] at S9
    clear hK2
    have Q_nW := TQY.cells (w0 := w) (hp := hp) (cp := cp) (sp := sp) nW
    have l_nW := blk_lt (S9.box _ nW)
    simp only at l_nW
    have Q_n9 := TQY.cells (w0 := w) (hp := hp) (cp := cp) (sp := sp) n9
    have l_n9 := blk_lt (S9.box _ n9)
    simp only at l_n9
    have hS1 : TQY w hp cp sp K2 _ := TQY.of S9
    have HS := hid' S9
    have HNU : Hid (∀ x v W, TQ w hp cp sp K2 x W → Calls Tryz.prog 12 #[.int .i64 v] W fun e w' => e = .returned (iO v).val ∧ TQ w hp cp sp K2 x w') := hid' (fun x v => TQ.num v)
    have HNA : Hid (∀ x s W, TQ w hp cp sp K2 x W → Calls Tryz.prog 11 #[.string s] W fun e w' => e = .returned (nameO s).val ∧ TQ w hp cp sp K2 x w') := hid' (fun x s => TQ.name s)
    clear S9
    have HC : Hid (∀ x W, TQ w hp cp sp K2 x W → Calls Tryz.prog 22 #[] W fun r w' => r = .returned (.int .i64 162) ∧ TQ w hp cp sp K2 x w') := hid' (fun x W S => (count_any W).mono fun _ _ h => ⟨h.1, S.pure h.2⟩)
    have HM : Hid (∀ x W, TQ w hp cp sp K2 x W → Calls Tryz.prog 21 #[.int .i64 m] W fun r w' => r = .returned (.string (opN m)) ∧ TQ w hp cp sp K2 x w') := hid' (fun x W S => (name_any m hm1 hm2 W).mono fun _ _ h => ⟨h.1, S.pure h.2⟩)
    clear hm1 hm2
    go_region_held3 (fun W' => TQY w hp cp sp K2 W') (first | (with_reducible assumption) | (with_reducible exact TQY.alloc (by with_reducible assumption) _) | (with_reducible exact TQY.drew (by with_reducible assumption)) | (with_reducible exact TQY.drew (TQY.alloc (by with_reducible assumption) _)))
      (first
        | (go_at_call 12; refine (HNU.out _ _ _ (by first | with_reducible assumption | (with_reducible exact HS.out.drew))).mono ?_; rintro r w7 ⟨rfl, S6⟩; have hY := TQY.of S6)
        | (go_at_call 11; refine (HNA.out _ _ _ (by first | with_reducible assumption | (with_reducible exact HS.out.drew))).mono ?_; rintro r w7 ⟨rfl, S6⟩; have hY := TQY.of S6)
        | (go_at_call 22; refine (HC.out _ _ (by first | with_reducible assumption | (with_reducible exact HS.out.drew))).mono ?_; rintro r w7 ⟨rfl, S6⟩; have hY := TQY.of S6)
        | (go_at_call 21; refine (HM.out _ _ (by first | with_reducible assumption | (with_reducible exact HS.out.drew))).mono ?_; rintro r w7 ⟨rfl, S6⟩; have hY := TQY.of S6)
        | (go_at_call 10; refine (HUD.out _ _ _ _ _ _ _ _ (by first | with_reducible assumption | (with_reducible exact HS.out.drew))).mono ?_; rintro r w7 ⟨rfl, S6⟩; have hY := TQY.of S6))
    clear hS1 HS HNU HNA Q_nW l_nW Q_n9 l_n9
    clear HUD HC HM
    go_upto_region 13 with (fail)
    (try clear Rw); (try clear yw); (try clear Zw)
    have Rw := cells_of (S6.box _ nW)
    have yw := blk_lt (S6.box _ nW)
    (try simp only at Rw yw)
    go_wp2_with fail
    refine (HC3.out _ _ _ _ _ S6).mono ?_
    rintro r w8 ⟨rfl, S7⟩
    clear S6 HC3
    (try clear Rw); (try clear yw); (try clear Zw)
    have Rw := cells_of (S7.box _ nW)
    have yw := blk_lt (S7.box _ nW)
    (try simp only at Rw yw)
    go_wp2_with fail
    refine (HEN.out _ _ _ _ _ _ _ _ S7).mono ?_
    rintro r w9 ⟨rfl, S8⟩
    clear S7 HEN Rw yw
    go_wp2_with fail
    go_loopw [12] (fun iv wr => ∃ j : Nat, j ≤ 18 ∧ iv = .int .i64 ((j : Int) + 2) ∧ TQ w hp cp sp K2 (xr j) wr) (fun iv _ => 20 - (intOf iv).toNat)
    case atStart => exact ⟨0, by omega, rfl, by rw [HR0.out]; exact S8⟩
    case round =>
    obtain ⟨j, hj, rfl, S9⟩ := hrel
    clear S8
    by_cases hlt : j < 18
    · have hlt' : (j : Int) + 2 < 20 := by omega
      (try clear Rw); (try clear yw); (try clear Zw)
      have Rw := cells_of (S9.box _ nW)
      have yw := blk_lt (S9.box _ nW)
      (try clear Rd); (try clear yd); (try clear Zd)
      have Rd := cells_of (S9.box _ n9)
      have yd := blk_lt (S9.box _ n9)
      (try simp only at Rw yw Rd yd)
      go_wp2_with fail
      refine (HB.out j hlt _ _ _ _ _ _ _ _ S9).mono ?_
      rintro r w10 ⟨rfl, S10⟩
      go_wp2_with fail
      go_roundw
      case rel => exact ⟨j + 1, by omega, by go_num, S10⟩
      case measure => simp [intOf]; omega
    obtain rfl : j = 18 := by omega
    clear hlt HB
    (try clear Rw); (try clear yw); (try clear Zw)
    have Rw := cells_of (S9.box _ nW)
    have yw := blk_lt (S9.box _ nW)
    (try clear Rd); (try clear yd); (try clear Zd)
    have Rd := cells_of (S9.box _ n9)
    have yd := blk_lt (S9.box _ n9)
    (try simp only at Rw yw Rd yd)
    go_wp2_with fail
    refine (HBE.out _ _ _ _ _ _ _ _ S9).mono ?_
    rintro r w10 ⟨rfl, S10⟩
    clear S9 HBE Rw yw Rd yd
    go_upto_region 21 with (fail)
    have Q_nW := TQY.cells (w0 := w) (hp := hp) (cp := cp) (sp := sp) nW
    have l_nW := blk_lt (S10.box _ nW)
    simp only at l_nW
    have hS1 : TQY w hp cp sp K2 _ := TQY.of S10
    have HS := hid' S10
    have HNU : Hid (∀ x v W, TQ w hp cp sp K2 x W → Calls Tryz.prog 12 #[.int .i64 v] W fun e w' => e = .returned (iO v).val ∧ TQ w hp cp sp K2 x w') := hid' (fun x v => TQ.num v)
    have HNA : Hid (∀ x s W, TQ w hp cp sp K2 x W → Calls Tryz.prog 11 #[.string s] W fun e w' => e = .returned (nameO s).val ∧ TQ w hp cp sp K2 x w') := hid' (fun x s => TQ.name s)
    clear S10
    go_region_held3 (fun W' => TQY w hp cp sp K2 W') (first | (with_reducible assumption) | (with_reducible exact TQY.alloc (by with_reducible assumption) _) | (with_reducible exact TQY.drew (by with_reducible assumption)) | (with_reducible exact TQY.drew (TQY.alloc (by with_reducible assumption) _)))
      (first
        | (go_at_call 12; refine (HNU.out _ _ _ (by first | with_reducible assumption | (with_reducible exact HS.out.drew))).mono ?_; rintro r w7 ⟨rfl, S6⟩; have hY := TQY.of S6)
        | (go_at_call 11; refine (HNA.out _ _ _ (by first | with_reducible assumption | (with_reducible exact HS.out.drew))).mono ?_; rintro r w7 ⟨rfl, S6⟩; have hY := TQY.of S6)
        | (go_at_call 23; refine (HDP.out _ _ _ _ _ (by first | with_reducible assumption | (with_reducible exact HS.out.drew))).mono ?_; rintro r w7 ⟨rfl, S6⟩; have hY := TQY.of S6)
        | (go_at_call 10; refine (HDF.out _ _ _ _ _ _ _ _ (by first | with_reducible assumption | (with_reducible exact HS.out.drew))).mono ?_; rintro r w7 ⟨rfl, S6⟩; have hY := TQY.of S6))
    clear hS1 HS HNU HNA Q_nW l_nW
    go_wp2_with fail
    go_ret
    exact ⟨rfl, S6.chg⟩
end Go.Proofs.YtpgkjgceldleaaaGreat
/- TableRefuses, whole. -/
namespace Go.Proofs.YtpgkjgceldleaaaGreat
open Go.RowKit

theorem num20_miss2 (s : ByteArray) : (∃ (i : Nat) (fam : Nat), opT[i]? = some (fam, s.toList)) ∨ (∀ k (_ : k < opT.length), opT[k].2 ≠ s.toList) := by
  by_cases h : ∃ k, ∃ (hk : k < opT.length), opT[k].2 = s.toList
  · obtain ⟨k, hk, e⟩ := h
    exact .inl ⟨k, opT[k].1, by rw [List.getElem?_eq_getElem hk, ← e]⟩
  · exact .inr fun k hk e => h ⟨k, hk, e⟩
theorem ba_toArray2 (s : ByteArray) : (⟨s.toList.toArray⟩ : ByteArray) = s := by rw [ByteArray.toList_eq]
set_option maxRecDepth 100000 in
set_option maxHeartbeats 4000000 in
theorem tableRefuses_any (s : ByteArray) (n : Int) (hs : s.size ≤ maxLen) (hn0 : 0 ≤ n) (hn1 : n < 256) (w : World) :
    Calls Tryz.prog 5 #[.string s, .int .u8 n] w fun e w' => e = .returned (.bool true) ∧ Chg NoB w w' := by
  by_cases h1 : 100 < s.size
  · have HKN := hid' (known20_any w)
    have h1' : (100 : Int) < s.size := by omega
    have hm : (s.size : Int) ≤ 9223372036854775807 := by unfold maxLen at hs; omega
    clear hs h1
    go_enter Tryz.func5, Tryz.ntmps5
    go_wp2_with fail
    refine HKN.out.mono ?_
    rintro r w1 ⟨rfl, X1⟩
    go_wp2_with fail
    go_ret
    exact ⟨rfl, X1⟩
  · rcases num20_miss2 s with ⟨i, fam, h⟩ | h
    · have hi := (List.getElem?_eq_some_iff.1 h).1
      rw [opT_length] at hi
      refine tableRefuses_hit s n (by omega) hn0 hn1 i hi ?_ (fun W => ?_) w
      · rw [opN_nat, List.getD_eq_getElem?_getD, List.getElem?_map, h]
        exact (ba_toArray2 s).symm
      · have := number_hit i fam _ h W
        rwa [ba_toArray2] at this
    · exact tableRefuses_miss s n (by omega) hn0 hn1 h (fun W => number_miss s h W) w
end Go.Proofs.YtpgkjgceldleaaaGreat
