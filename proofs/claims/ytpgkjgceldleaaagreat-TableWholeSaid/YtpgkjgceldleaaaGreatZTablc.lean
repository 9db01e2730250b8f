/- Urn, Uro, Ulw -/
import Derived.Test.YtpgkjgceldleaaaGreatZRkh
import Derived.Test.YtpgkjgceldleaaaGreatZHeapc
import Derived.Test.YtpgkjgceldleaaaGreatZStack
import Derived.Test.YtpgkjgceldleaaaGreatZScpa
import Derived.Test.YtpgkjgceldleaaaGreatZTablb
/- tympanref15: names, all, Count, Name; tympanref16.New, as far as it does not matter what it makes. -/
namespace Go.Proofs.YtpgkjgceldleaaaGreat
open Go.RowKit

def isStrV : Value → Bool
  | .string _ => true
  | _ => false
theorem isStrV_at {v : Value} (h : isStrV v = true) : ∃ s, v = .string s := by
  cases v <;> simp [isStrV] at h
  exact ⟨_, rfl⟩
/-- Behind names: a row of strings. -/
def NamesP (w : World) (r : Ending) (w' : World) : Prop :=
  ∃ (cs : Array Value) (n : Nat), r = .returned (.slice (some ⟨w.heap.size, 0, none⟩) n n) ∧ cs.size = n ∧ 0 < n ∧ n ≤ 100 ∧ cs.toList.all isStrV = true ∧ w' = w.alloc (.cells cs 9)
set_option maxRecDepth 100000 in
set_option maxHeartbeats 1000000 in
theorem names15_any (k : Int) (h : k = 1 ∨ k = 2 ∨ k = 3 ∨ k = 4 ∨ k = 5 ∨ k = 6) (w : World) : Calls Tryz.prog 163 #[.int .i64 k] w (NamesP w) := by
  rcases h with rfl | rfl | rfl | rfl | rfl | rfl
  all_goals
    go_enter Tryz.func163, Tryz.ntmps163
    go_wp2_with fail
    go_ret
    exact ⟨_, _, rfl, rfl, by decide, by decide, by rfl, rfl⟩
theorem ur_info : (Tryz.prog.info? 9).map (fun i => (i.zero, i.size, i.bytes)) = some (some (.string ⟨#[]⟩), 1, 16) := by kernel_rfl
theorem ur_under : Tryz.prog.underlying 174 = some (.slice 9) := by kernel_rfl
/-- Behind all: a row of strings. -/
def AllP (w0 : World) (M : List (Nat × List C)) (K : List (Nat × Obj)) (r : Ending) (w' : World) : Prop :=
  ∃ R lv n xs, r = .returned lv ∧ RowG 9 1 R lv n xs ∧ n ≤ 600 ∧ (∀ v ∈ xs, isStrV v = true) ∧ Ats w0 w' M (R ++ K)
theorem str_one {cs : Array Value} (h : cs.toList.all isStrV = true) : ∀ u ∈ cs.toList, u.oneCell' = true := fun u hu => by
  obtain ⟨s, rfl⟩ := isStrV_at (List.all_eq_true.1 h u hu)
  rfl
set_option maxRecDepth 100000 in
set_option maxHeartbeats 2000000 in
theorem all15_any {w0 w : World} {M : List (Nat × List C)} {K : List (Nat × Obj)} (A : Ats w0 w M K) : Calls Tryz.prog 110 #[] w (AllP w0 M K) := by
  obtain ⟨i0, hi, hz0, hz1, hz2⟩ := info_parts ur_info
  go_enter Tryz.func110, Tryz.ntmps110
  go_wp2_with fail
  go_loopw [1, 2] (fun lv kv wr => ∃ (k : Nat) (n : Nat) (R : List (Nat × Obj)) (xs : List Value), kv = .int .i64 ((k : Int) + 1) ∧ k ≤ 6 ∧ n ≤ 100 * k ∧ RowG 9 1 R lv n xs ∧ (∀ v ∈ xs, isStrV v = true) ∧ Ats w0 wr M (R ++ K)) (fun _ kv _ => 7 - (intOf kv).toNat)
  case atStart => exact ⟨0, 0, [], [], rfl, by omega, by omega, .inl ⟨rfl, rfl, rfl, rfl⟩, fun v hv => by simp at hv, A⟩
  case round =>
    obtain ⟨k, n, R, xs, rfl, hk, hn, hR, hx, A2⟩ := hrel
    clear A
    by_cases hlt : k < 6
    · have hlt' : (k : Int) < 6 := by omega
      have hN := hid' (fun W => names15_any ((k : Int) + 1) (by omega) W)
      obtain ⟨a, c, rfl, hac⟩ := rowG_slice hR
      have HR := hid' hR
      have HX := hid' hx
      clear hR hx hac
      go_wp2_with fail
      refine (hN.out _).mono ?_
      rintro r w3 ⟨cs, m, rfl, hcs, hm0, hm1, hall, rfl⟩
      have A3 := A2.pure ((Chg.refl NoB wr).alloc (.cells cs 9))
      have HA := hid' A3
      have HAL := hid' hall
      have HCS := hid' hcs
      clear A2 A3 hall hcs hN
      go_wp2_with (at_builtin; refine wpList_append_own_at _ rfl _ _ 174 rfl w0.heap.size 9 i0 (.string ⟨#[]⟩) 1 16 ur_under hi hz0 hz1 hz2 rfl (by decide) (.slice a n c) n xs rfl (HA.out.ownsG HR.out) ⟨wr.heap.size, 0, none⟩ m m cs.toList rfl (by rw [Array.length_toList, HCS.out, Nat.mul_one]) (fun j u hj => World.news_of_block (w := wr.alloc (.cells cs 9)) (B := wr.heap.size) (cs := cs) (t := 9) (fr := (0, 0)) (blk_new wr _) j u (by simpa using hj)) (str_one HAL.out) ?_ ?_ ?_ ?_; (unfold maxLen; omega); omega; (have := HA.out.chg.size; exact this); intro v' w5 hown hgr _ hob)
      obtain ⟨R', hR', A6⟩ := HA.out.grownG HR.out hown hgr (by
        rcases hob with e | e
        · exact .inl e
        · exact .inr e) hm0
      have HX' : Hid (∀ v ∈ xs ++ cs.toList, isStrV v = true) := hid' fun v hv => by
        rcases List.mem_append.1 hv with h | h
        · exact HX.out v h
        · exact List.all_eq_true.1 HAL.out v h
      clear hown hgr hob HR HA HX HAL HCS
      go_wp2_with fail
      go_roundw
      case rel => exact ⟨k + 1, n + m, R', xs ++ cs.toList, by go_num, by omega, by omega, hR', HX'.out, A6⟩
      case measure => simp [intOf]; omega
    · obtain rfl : k = 6 := by omega
      go_wp2_with fail
      go_ret
      exact ⟨R, _, n, xs, rfl, hR, by omega, hx, A2⟩
set_option maxRecDepth 100000 in
theorem count15_any {w0 w : World} {M : List (Nat × List C)} {K : List (Nat × Obj)} (A : Ats w0 w M K) : Calls Tryz.prog 59 #[] w fun r w' => ∃ n : Nat, r = .returned (.int .i64 n) ∧ n ≤ 600 ∧ Ats w0 w' M K := by
  go_enter Tryz.func59, Tryz.ntmps59
  go_wp2_with fail
  refine (all15_any A).mono ?_
  rintro r w2 ⟨R, lv, n, xs, rfl, hR, hn, -, A2⟩
  obtain ⟨a, c, rfl, hac⟩ := rowG_slice hR
  have A3 := A2.keep (List.sublist_append_right R K)
  clear A A2 hR
  go_wp2_with fail
  go_ret
  exact ⟨n, rfl, hn, A3⟩
set_option maxRecDepth 100000 in
theorem name15_any {w0 w : World} {M : List (Nat × List C)} {K : List (Nat × Obj)} (A : Ats w0 w M K) (k : Int) : Calls Tryz.prog 63 #[.int .i64 k] w fun r w' => ∃ s, r = .returned (.string s) ∧ Ats w0 w' M K := by
  go_enter Tryz.func63, Tryz.ntmps63
  go_wp2_with fail
  refine (all15_any A).mono ?_
  rintro r w2 ⟨R, lv, n, xs, rfl, hR, hn, hx, A2⟩
  have A3 := hid' (A2.keep (List.sublist_append_right R K))
  obtain ⟨a, c, rfl, hac⟩ := rowG_slice hR
  by_cases h1 : k < 1
  · go_wp2_with fail
    go_ret
    exact ⟨_, rfl, A3.out⟩
  · by_cases h2 : (n : Int) < k
    · go_wp2_with fail
      go_ret
      exact ⟨_, rfl, A3.out⟩
    · obtain ⟨m, rfl⟩ := Int.eq_ofNat_of_zero_le (show 0 ≤ k by omega)
      obtain ⟨g, cap, cur, e, rfl, hc⟩ := hR.shape (by omega)
      simp only [Value.slice.injEq] at e
      obtain ⟨rfl, -, rfl⟩ := e
      obtain ⟨j, rfl⟩ : ∃ j, m = j + 1 := ⟨m - 1, by omega⟩
      have hl : xs.length = n * 1 := by
        rcases hR with ⟨-, h0, -⟩ | ⟨_, _, _, -, -, -, -, -, -, h⟩
        · omega
        · exact h
      obtain ⟨v, hv⟩ : ∃ v, xs[j]? = some v := ⟨xs[j]'(by omega), List.getElem?_eq_getElem _⟩
      obtain ⟨s, rfl⟩ := isStrV_at (hx v (List.mem_of_getElem? hv))
      have hq := (hc j (by omega)).trans hv
      have A4 := A2
      (try clear Rg); (try clear yg); (try clear Zg)
      have Rg := cells_of (A4.box _ m0)
      have yg := blk_lt (A4.box _ m0)
      (try simp only at Rg yg)
      have e1 : (j : Int) + 1 - 1 = j := by omega
      have e2 : (j : Int) < n := by omega
      have e3 : (n : Int) ≤ c := by omega
      have e4 : (n : Int) ≤ 600 := by omega
      have v1 := IntWalk.i64_in (j : Int) (by omega)
      clear hc hx hR A4 hv A2 A hl
      go_wp2_with fail
      go_ret
      exact ⟨_, rfl, A3.out⟩
end Go.Proofs.YtpgkjgceldleaaaGreat
/- tympanref16.New, as far as it does not matter what it makes. -/
namespace Go.Proofs.YtpgkjgceldleaaaGreat
open Go.RowKit

/-- A reference's heap, whatever it holds. -/
def RSx (J0 : List (Nat × Obj)) (w0 : World) (gp : Nat) (M : List (Nat × List C)) (K : List (Nat × Obj)) (W : World) : Prop := ∃ L, RS J0 w0 gp M K L W
section
variable {J0 : List (Nat × Obj)} {w0 W : World} {gp : Nat} {M : List (Nat × List C)} {K : List (Nat × Obj)} {L : List C}
theorem RSx.of (T : RS J0 w0 gp M K L W) : RSx J0 w0 gp M K W := ⟨L, T⟩
theorem RSx.drew (T : RSx J0 w0 gp M K W) : RSx J0 w0 gp M K W.drew := by obtain ⟨L, T⟩ := T; exact ⟨L, T.drew⟩
theorem RSx.cells {g : Nat} {cs : Array Value} {T' : TypeId} {fz : Nat × Nat} (hm : (g, Obj.cells cs T' fz) ∈ K) : ∀ W, RSx J0 w0 gp M K W → ∀ i, W.cell? ⟨g, i, none⟩ = cs[i]? := by
  rintro W ⟨L, T⟩ i; exact cells_of (T.box _ hm) i
theorem rs_name (k : Int) (T : RS J0 w0 gp M K L W) : Calls Tryz.prog 63 #[.int .i64 k] W fun r w' => ∃ s, r = .returned (.string s) ∧ RS J0 w0 gp M K L w' := by
  obtain ⟨E, H, A⟩ := T
  exact (name15_any A k).mono fun r w' ⟨s, h1, h2⟩ => ⟨s, h1, E, H, h2⟩
theorem rs_dict (n : Int) {L' : List C} {o : O} {e : Int} (hr : dictH L n = (L', o, e)) (T : RS J0 w0 gp M K L W) : Calls Tryz.prog 60 #[ptr gp, .int .i64 n] W fun r w' => r = .returned (.tuple #[o.val, .int .i64 e]) ∧ RS J0 w0 gp M K L' w' := by
  obtain ⟨E, H, A⟩ := T
  exact (rdict_any H A n hr).mono fun r w' ⟨h1, E', h2, h3⟩ => ⟨h1, E', h2, h3⟩
theorem rs_lock (o : O) {L' : List C} {e : Int} (hr : lockH L o = (L', e)) (T : RS J0 w0 gp M K L W) : Calls Tryz.prog 64 #[ptr gp, o.val] W fun r w' => r = .returned (.int .i64 e) ∧ RS J0 w0 gp M K L' w' := by
  obtain ⟨E, H, A⟩ := T
  exact (rlock_any H A o hr).mono fun r w' ⟨h1, E', h2, h3⟩ => ⟨h1, E', h2, h3⟩
theorem RS.ats (T : RS J0 w0 gp M K L W) : Ats w0 W M K := by
  obtain ⟨E, H, A⟩ := T; exact A.keep (List.sublist_append_right E K)
end
def NewP (w0 : World) (M : List (Nat × List C)) (K : List (Nat × Obj)) (r : Ending) (w' : World) : Prop := ∃ x e, r = .returned (.tuple #[.pointer x, .int .i64 e]) ∧ Ats w0 w' M K
theorem dic_0 (ps : List (O × O)) (n : Nat) (h : ps.length ≤ n) (hn : n ≤ 600) : DicAt [dcell ps n, dcell [] 200] 0 (dcell ps n) := ⟨rfl, rfl, rfl, rfl, by simp only [dItems_length _ _ h]; omega, by decide⟩
set_option maxRecDepth 100000 in
set_option maxHeartbeats 4000000 in
theorem rnew16_any {w0 w : World} {M : List (Nat × List C)} {K : List (Nat × Obj)} {gp : Nat} (T : RS [] w0 gp M K [] w) : Calls Tryz.prog 27 #[ptr gp] w (NewP w0 M K) := by
  obtain ⟨E0, H0, A0⟩ := T
  go_enter Tryz.func27, Tryz.ntmps27
  go_wp2_with fail
  refine (rcopy_any H0 A0).mono ?_
  rintro r w1 ⟨vp, rfl, J, E2, H1, -, -, A1⟩
  have A2 := A1.keep (List.sublist_append_right E2 _)
  clear A1 H0 A0
  go_wp2_with fail
  refine (count15_any A2).mono ?_
  rintro r w2 ⟨n, rfl, hn, A3⟩
  have T3 : RS J w0 gp M K [] w2 := ⟨_, H1, A3⟩
  clear A2 A3 H1
  have hd1 : dictH [] (n : Int) = ([dcell [] n], dicO 0, 0) := dict_new [] n (by decide) (by omega) (by simp [used]; omega)
  have hd2 : dictH [dcell [] n] 200 = ([dcell [] n, dcell [] 200], dicO 1, 0) := dict_new [dcell [] n] 200 (by simp) (by decide) (by simp [used, C.size, dItems_length [] n (by simp)]; omega)
  go_wp2_with fail
  refine (rs_dict _ hd1 T3).mono ?_
  rintro r w3 ⟨rfl, T4⟩
  have T5 := T4.alloc (Obj.cells #[.int .i64 10, .bool false, .int .i64 0, .int .i64 0, .int .i64 0, .string ⟨#[]⟩] 38)
  clear T3 T4
  go_wp2_with fail
  refine (rs_dict _ hd2 T5).mono ?_
  rintro r w4 ⟨rfl, T6⟩
  have T7 := T6.alloc (Obj.cells #[.int .i64 10, .bool false, .int .i64 1, .int .i64 0, .int .i64 0, .string ⟨#[]⟩] 38)
  clear T5 T6 hd1 hd2
  go_upto_region 10 with (fail)
  generalize w3.heap.size = da at *
  generalize w4.heap.size = db at *
  generalize World.alloc _ _ = w5 at *
  obtain ⟨KB, hKB⟩ : ∃ KB, KB = (db, Obj.cells #[.int .i64 10, .bool false, .int .i64 1, .int .i64 0, .int .i64 0, .string ⟨#[]⟩] 38) :: (da, Obj.cells #[.int .i64 10, .bool false, .int .i64 0, .int .i64 0, .int .i64 0, .string ⟨#[]⟩] 38) :: K := ⟨_, rfl⟩
  have na : (da, Obj.cells #[.int .i64 10, .bool false, .int .i64 0, .int .i64 0, .int .i64 0, .string ⟨#[]⟩] 38) ∈ KB := by rw [hKB]; exact m1
  have nb : (db, Obj.cells #[.int .i64 10, .bool false, .int .i64 1, .int .i64 0, .int .i64 0, .string ⟨#[]⟩] 38) ∈ KB := by rw [hKB]; exact m0
  rw [← hKB] at T7
  have HKB := hid' hKB
  have hn2 : (n : Int) ≤ 600 := by omega
  clear hKB
  go_wp2_with fail
  go_loopw [9] (fun nv wr => ∃ (k : Nat) (ps : List (O × O)), k ≤ n ∧ nv = .int .i64 ((k : Int) + 1) ∧ ps.length ≤ n ∧ RS J w0 gp M KB [dcell ps n, dcell [] 200] wr) (fun nv _ => n + 1 - (intOf nv).toNat)
  case atStart => exact ⟨0, [], by omega, rfl, Nat.zero_le _, T7⟩
  case round =>
    obtain ⟨k, ps, hk, rfl, hps, T8⟩ := hrel
    clear T7
    by_cases hlt : k < n
    · have hlt' : (k : Int) < n := by omega
      have RC := RSx.cells (J0 := J) (w0 := w0) (gp := gp) (M := M) na
      have la := blk_lt (T8.box _ na)
      simp only at la
      have hS1 := RSx.of T8
      have HT := hid' T8
      have HN := hid' (fun W (T : RS J w0 gp M KB [dcell ps n, dcell [] 200] W) => rs_name ((k : Int) + 1) T)
      have HST := hid' (fun (s : ByteArray) W (T : RS J w0 gp M KB [dcell ps n, dcell [] 200] W) => rset12_ex T 0 ps n (dic_0 ps n hps hn) hps (by omega) (nameO s) (opO ((k : Int) + 1)))
      clear T8
      go_upto_region 13 with (fail)
      go_region_held3 (fun W' => RSx J w0 gp M KB W') (first | (with_reducible assumption) | (with_reducible exact RSx.of T6) | (with_reducible exact RSx.of T7) | (with_reducible exact RSx.drew (by with_reducible assumption)))
        (first
          | (go_at_call 63; refine (HN.out _ (by first | (with_reducible exact HT.out) | (with_reducible exact HT.out.drew))).mono ?_; rintro r w6 ⟨s, rfl, T6⟩)
          | (go_at_call 62; obtain ⟨ps', e', hps', hC⟩ := HST.out s _ T6; refine hC.mono ?_; rintro r w7 ⟨rfl, T7⟩))
      go_wp2_with fail
      go_roundw
      case rel => exact ⟨k + 1, ps', by omega, by go_num, hps', T7⟩
      case measure => simp [intOf]; omega
    · obtain rfl : k = n := by omega
      obtain ⟨L', e', hl⟩ : ∃ L' e', lockH [dcell ps k, dcell [] 200] (dicO 0) = (L', e') := ⟨_, _, rfl⟩
      (try clear Ra); (try clear ya); (try clear Za)
      have Ra := cells_of (T8.box _ na)
      have ya := blk_lt (T8.box _ na)
      (try clear Rb); (try clear yb); (try clear Zb)
      have Rb := cells_of (T8.box _ nb)
      have yb := blk_lt (T8.box _ nb)
      (try simp only at Ra ya Rb yb)
      go_wp2_with fail
      refine (rs_lock _ hl T8).mono ?_
      rintro r w7 ⟨rfl, T9⟩
      (try clear Ra); (try clear ya); (try clear Za)
      have Ra := cells_of (T9.box _ na)
      have ya := blk_lt (T9.box _ na)
      (try clear Rb); (try clear yb); (try clear Zb)
      have Rb := cells_of (T9.box _ nb)
      have yb := blk_lt (T9.box _ nb)
      (try simp only at Ra ya Rb yb)
      have A9 := hid' (T9.ats.keep (K' := K) (by rw [HKB.out]; exact (List.sublist_cons_self _ _).trans (List.sublist_cons_self _ _)))
      clear T8 T9
      go_wp2_with fail
      go_ret2
      exact ⟨_, _, rfl, A9.out.pure (((Chg.refl NoB w7).alloc _).alloc _)⟩
end Go.Proofs.YtpgkjgceldleaaaGreat
/- Walks: the laws' own functions of layer 20: fresh, num, name, do, top. -/
namespace Go.Proofs.YtpgkjgceldleaaaGreat
open Go.RowKit

abbrev xVal (hp cp sp gp : Nat) (dv : Value) (tp : Nat) : Value := .agg #[ptr hp, ptr cp, ptr sp, ptr gp, dv, ptr tp]
abbrev xBox (hp cp sp gp : Nat) (dv : Value) (tp : Nat) : Obj := .cells #[ptr hp, ptr cp, ptr sp, ptr gp, dv, ptr tp] 33
set_option maxRecDepth 100000 in
theorem num20_any (n : Int) (w : World) : Calls Tryz.prog 12 #[.int .i64 n] w fun e w' => e = .returned (iO n).val ∧ Chg NoB w w' := by
  go_enter Tryz.func12, Tryz.ntmps12
  go_wp2_with fail
  refine bodyPost_ret (v := (iO n).val) ?_ rfl ⟨rfl, (Chg.refl NoB w).alloc _⟩
  simp [results, Tryz.results12, go_sem]
set_option maxRecDepth 100000 in
theorem name20_any (s : ByteArray) (w : World) : Calls Tryz.prog 11 #[.string s] w fun e w' => e = .returned (nameO s).val ∧ Chg NoB w w' := by
  go_enter Tryz.func11, Tryz.ntmps11
  go_wp2_with fail
  refine bodyPost_ret (v := (nameO s).val) ?_ rfl ⟨rfl, (Chg.refl NoB w).alloc _⟩
  simp [results, Tryz.results11, go_sem]
/-- Behind fresh. -/
def FreshP (w0 : World) (K : List (Nat × Obj)) (r : Ending) (w' : World) : Prop := ∃ hp cp sp gp x tp, r = .returned (xVal hp cp sp gp (.pointer x) tp) ∧ TabAt w0 w' [(hp, hQ sysQ)] K cp hp sp (dsQ 2) []
set_option maxRecDepth 100000 in
set_option maxHeartbeats 2000000 in
theorem fresh20_any {w0 w : World} {K : List (Nat × Obj)} (A : Ats w0 w [] K) : Calls Tryz.prog 9 #[] w (FreshP w0 K) := by
  have A1 := A.alloc (.cells #[.pointer none, .pointer none, .pointer none, .pointer none, .pointer none, .pointer none] 33)
  go_enter Tryz.func9, Tryz.ntmps9
  go_wp2_with fail
  refine (at_hnew A1).mono ?_
  rintro r w2 ⟨hp, rfl, A2⟩
  have A3 := A2.alloc (refBox (.slice none 0 0))
  clear A A1 A2
  go_wp2_with fail
  refine (q_new A3).mono ?_
  rintro r w4 ⟨cp, rfl, S4⟩
  obtain ⟨g, cap, cur, h1, h2, h3, h4, A4⟩ := S4
  have T4 : RS [] w0 w2.heap.size [(hp, hQ sysQ)] ((g, .cells cur 38) :: (cp, scpBox hp g (dsQ 2).length cap) :: (w.heap.size, .cells #[.pointer none, .pointer none, .pointer none, .pointer none, .pointer none, .pointer none] 33) :: K) [] w4 :=
    ⟨[(w2.heap.size, refBox (.slice none 0 0))], RefK.new _, A4.perm (List.perm_middle (l₁ := [_, _]))⟩
  have HC := hid' (And.intro h1 (And.intro h2 (And.intro h3 h4)))
  clear A3 A4 h1 h2 h3 h4
  generalize w2.heap.size = gp at *
  go_wp2_with fail
  refine (rnew16_any T4).mono ?_
  rintro r w5 ⟨x, e, rfl, A5⟩
  clear T4
  go_wp2_with fail
  refine (stk_new A5).mono ?_
  rintro r w6 ⟨sp, rfl, S6⟩
  have S7 : TabAt w0 w6 [(hp, hQ sysQ)] ((w.heap.size, .cells #[.pointer none, .pointer none, .pointer none, .pointer none, .pointer none, .pointer none] 33) :: K) cp hp sp (dsQ 2) [] :=
    ⟨g, cap, cur, HC.out.1, HC.out.2.1, HC.out.2.2.1, HC.out.2.2.2, S6⟩
  clear A5 S6 HC
  have S8 := (((((S7.put 0 (ptr hp)).put 1 (ptr cp)).put 2 (ptr sp)).put 3 (ptr gp)).put 4 (.pointer x)).put 5 (ptr w6.heap.size)
  simp only [List.setIfInBounds_toArray, List.set_cons_zero, List.set_cons_succ] at S8
  have S9 := S8.alloc (.cells #[.slice none 0 0] 85)
  (try clear Ra); (try clear ya); (try clear Za)
  have Ra := cells_of (S7.box _ m0)
  have ya := blk_lt (S7.box _ m0)
  have Za := free_of (S7.box _ m0)
  (try simp only at Ra ya Za)
  clear S7
  have R8 := cells_of (S8.box _ m0)
  have R9 := cells_of (S9.box _ m1)
  go_wp2_with fail
  refine bodyPost_ret (v := xVal hp cp sp gp (.pointer x) w6.heap.size) ?_ rfl ⟨hp, cp, sp, gp, x, _, rfl, ?_⟩
  · simp [results, Tryz.results9, go_sem, R9, R8, Nat.ne_of_lt ya]
  · exact S9.keep ((List.sublist_cons_self _ _).trans (List.sublist_cons_self _ _))
set_option maxRecDepth 100000 in
set_option maxHeartbeats 1000000 in
theorem do20_any {w0 w : World} {M M' : List (Nat × List C)} {K : List (Nat × Obj)} {hp cp sp gp tp : Nat} {dv : Value} {ds ds' l l' gv : List O} (S : TabAt w0 w M K cp hp sp ds l) (k : Nat) (hk : gv.length = k) (hroom : l.length + k ≤ 200) (hmay : ∀ o ∈ gv, mayO o = true)
    (a : Option Addr) (cap : Nat) (hcap : k ≤ cap) (hread : ∀ m o, gv[m]? = some o → ∃ g off cur fz, a = some ⟨g, off, none⟩ ∧ (g, Obj.cells cur 38 fz) ∈ K ∧ ∀ j, j < 6 → cur[off + m * 6 + j]? = o.cells[j]?)
    (nm : ByteArray) (n e : Int) (b : Bool) (HN : ∀ w', Calls Tryz.prog 8 #[.string nm] w' fun r w2 => r = .returned (.tuple #[.int .i64 n, .bool b]) ∧ Chg NoB w' w2)
    (HD : ∀ w' K', TabAt w0 w' M K' cp hp sp ds (l ++ gv) → Calls Tryz.prog 44 #[ptr hp, ptr cp, ptr sp, .int .i64 n] w' fun r w2 => r = .returned (.int .i64 e) ∧ TabAt w0 w2 M' K' cp hp sp ds' l') :
    Calls Tryz.prog 10 #[xVal hp cp sp gp dv tp, .string nm, .slice a k cap] w fun r w2 => r = .returned (.int .i64 e) ∧ TabAt w0 w2 M' K cp hp sp ds' l' := by
  have S1 := S.alloc (xBox hp cp sp gp dv tp)
  (try clear Ra); (try clear ya); (try clear Za)
  have Ra := cells_of (S1.box _ m0)
  have ya := blk_lt (S1.box _ m0)
  (try simp only at Ra ya)
  have hread' : ∀ m o, gv[m]? = some o → ∃ g off cur fz, a = some ⟨g, off, none⟩ ∧ (g, Obj.cells cur 38 fz) ∈ (w.heap.size, xBox hp cp sp gp dv tp) :: K ∧ ∀ j, j < 6 → cur[off + m * 6 + j]? = o.cells[j]? := fun m o h => by
    obtain ⟨g, off, cur, fz, h1, h2, h3⟩ := hread m o h
    exact ⟨g, off, cur, fz, h1, List.mem_cons_of_mem _ h2, h3⟩
  have HRD := hid' hread'
  have HK := hid' hk
  have HRM := hid' hroom
  have HMY := hid' hmay
  have HN := hid' HN
  have HD := hid' HD
  have HS := hid' S1
  have hki : (k : Int) ≤ 200 := by omega
  have hkc : (k : Int) ≤ cap := by omega
  clear S hk hroom hmay hread hread' S1
  go_enter Tryz.func10, Tryz.ntmps10
  go_wp2_with fail
  generalize w.alloc (xBox hp cp sp gp dv tp) = wa at *
  go_loopw [13] (fun cv wr => ∃ (i : Nat), i ≤ k ∧ cv = .int .i64 i ∧ TabAt w0 wr M ((w.heap.size, xBox hp cp sp gp dv tp) :: K) cp hp sp ds (l ++ gv.take i)) (fun cv _ => k - (intOf cv).toNat)
  case atStart => exact ⟨0, Nat.zero_le _, rfl, by simpa using HS.out⟩
  case round =>
    obtain ⟨m, hm, rfl, S2⟩ := hrel
    by_cases hlt2 : m < k
    · obtain ⟨o, ho⟩ : ∃ o, gv[m]? = some o := ⟨gv[m]'(by rw [HK.out]; omega), List.getElem?_eq_getElem _⟩
      obtain ⟨g, off, cur, fz, rfl, hg, hq⟩ := HRD.out m o ho
      have HTK := hid' (show gv.take (m + 1) = gv.take m ++ [o] by rw [List.take_add_one, ho]; rfl)
      have HMO := hid' (HMY.out o (List.mem_of_getElem? ho))
      have q0 := hq 0 (by omega)
      have q1 := hq 1 (by omega)
      have q2 := hq 2 (by omega)
      have q3 := hq 3 (by omega)
      have q4 := hq 4 (by omega)
      have q5 := hq 5 (by omega)
      have e3 : (m : Int) < k := by omega
      have e4 : (0 : Int) ≤ m := by omega
      clear ho hq
      obtain ⟨kk, kx, kn, kp, kl, ks⟩ := o
      simp only [O.cells, List.getElem?_cons_zero, List.getElem?_cons_succ, Nat.add_zero] at q0 q1 q2 q3 q4 q5
      (try clear Rg); (try clear yg); (try clear Zg)
      have Rg := cells_of (S2.box _ hg)
      have yg := blk_lt (S2.box _ hg)
      (try clear Ra); (try clear ya); (try clear Za)
      have Ra := cells_of (S2.box _ m0)
      have ya := blk_lt (S2.box _ m0)
      (try simp only at Rg yg Ra ya)
      have S3 := S2.alloc (Obj.cells #[.int .i64 kk, .bool kx, .int .i64 kn, .int .i64 kp, .int .i64 kl, .string ks] 38)
      have RA3 := cells_of (S3.box _ m1)
      have yA3 := blk_lt (S3.box _ m1)
      simp only at RA3 yA3
      (try clear Rb); (try clear yb); (try clear Zb)
      have Rb := cells_of (S3.box _ m0)
      have yb := blk_lt (S3.box _ m0)
      (try simp only at Rb yb)
      have HP := hid' (S3.stk (M' := M) (l' := l ++ gv.take m ++ [⟨kk, kx, kn, kp, kl, ks⟩]) (r := .int .i64 0) (fun K' S' => stk_push S' ⟨kk, kx, kn, kp, kl, ks⟩ HMO.out (by have := HRM.out; simp; omega)))
      clear S2 S3
      go_wp2_with fail
      refine HP.out.mono ?_
      rintro e w3 ⟨rfl, S4⟩
      clear HP Rg yg Rb yb RA3 yA3
      go_wp2_with fail
      go_roundw
      case rel => exact ⟨m + 1, by omega, by go_num, by rw [HTK.out, ← List.append_assoc]; exact S4.keep (List.sublist_cons_self _ _)⟩
      case measure => simp [intOf]; omega
    · obtain rfl : m = k := by omega
      rw [List.take_of_length_le (by rw [HK.out]; exact Nat.le_refl _)] at S2
      go_wp2_with fail
      refine (HN.out _).mono ?_
      rintro r w3 ⟨rfl, X3⟩
      have S3 := S2.pure X3
      (try clear Ra); (try clear ya); (try clear Za)
      have Ra := cells_of (S3.box _ m0)
      have ya := blk_lt (S3.box _ m0)
      (try simp only at Ra ya)
      clear S2 X3
      go_wp2_with fail
      refine (HD.out _ _ S3).mono ?_
      rintro r w4 ⟨rfl, S4⟩
      go_wp2_with fail
      go_ret
      exact ⟨rfl, S4.keep (List.sublist_cons_self _ _)⟩
set_option maxRecDepth 100000 in
set_option maxHeartbeats 1000000 in
theorem top20_any {w0 w : World} {M : List (Nat × List C)} {K : List (Nat × Obj)} {hp cp sp gp tp : Nat} {dv : Value} {ds l : List O} {o : O} (S : TabAt w0 w M K cp hp sp ds (l ++ [o])) :
    Calls Tryz.prog 13 #[xVal hp cp sp gp dv tp] w fun r w2 => r = .returned o.val ∧ TabAt w0 w2 M K cp hp sp ds l := by
  have S1 := (S.alloc (xBox hp cp sp gp dv tp)).alloc (Obj.cells #[.int .i64 0, .bool false, .int .i64 0, .int .i64 0, .int .i64 0, .string ⟨#[]⟩] 38)
  simp only [World.size_alloc] at S1
  (try clear Ra); (try clear ya); (try clear Za)
  have Ra := cells_of (S1.box _ m1)
  have ya := blk_lt (S1.box _ m1)
  (try clear Rb); (try clear yb); (try clear Zb)
  have Rb := cells_of (S1.box _ m0)
  have yb := blk_lt (S1.box _ m0)
  have Zb := free_of (S1.box _ m0)
  (try simp only at Ra ya Rb yb Zb)
  have HP := hid' (S1.stk (M' := M) (l' := l) (r := .tuple #[o.val, .int .i64 0]) (fun K' S' => stk_pop S'))
  clear S S1
  obtain ⟨kk, kx, kn, kp, kl, ks⟩ := o
  go_enter Tryz.func13, Tryz.ntmps13
  go_wp2_with fail
  refine HP.out.mono ?_
  rintro r w2 ⟨rfl, S2⟩
  (try clear Rb); (try clear yb); (try clear Zb)
  have Rb := cells_of (S2.box _ m0)
  have yb := blk_lt (S2.box _ m0)
  have Zb := free_of (S2.box _ m0)
  (try simp only at Rb yb Zb)
  have S3 := S2.alloc (Obj.cells #[.int .i64 kk, .bool kx, .int .i64 kn, .int .i64 kp, .int .i64 kl, .string ks] 38)
  clear S2 HP
  go_upto_region 2 with (fail)
  generalize hW : w2.alloc _ = w3 at *
  clear hW Rb yb Zb Ra ya
  (try clear Rz); (try clear yz); (try clear Zz)
  have Rz := cells_of (S3.box _ m0)
  have yz := blk_lt (S3.box _ m0)
  (try clear Rb); (try clear yb); (try clear Zb)
  have Rb := cells_of (S3.box _ m1)
  have yb := blk_lt (S3.box _ m1)
  have Zb := free_of (S3.box _ m1)
  (try simp only at Rz yz Rb yb Zb)
  go_wp2_with fail
  refine bodyPost_ret (v := O.val ⟨kk, kx, kn, kp, kl, ks⟩) ?_ rfl ⟨rfl, ?_⟩
  · simp [results, Tryz.results13, go_sem, cell_set_at, Rb]
  · exact (((S3.perm (List.Perm.swap _ _ _)).putO kk kx kn kp kl ks).keep ((List.sublist_cons_self _ _).trans ((List.sublist_cons_self _ _).trans (List.sublist_cons_self _ _))))
end Go.Proofs.YtpgkjgceldleaaaGreat
