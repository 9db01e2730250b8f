/- Parts of the proof: Uxc, Uxd, Uxe. -/
import Derived.Test.YtoogmimbmgdflaaGreatY33
import Derived.Test.YtoogmimbmgdflaaGreatY35
namespace Go.Proofs.YtoogmimbmgdflaaGreat
open Go.RowKit
variable {gp sp : Nat} {w w0 : World} {M : List (Nat × List C)} {K : List (Nat × Obj)} {o : O} {e : Int}
section
def RSy (w0 : World) (gp : Nat) (M : List (Nat × List C)) (K : List (Nat × Obj)) (L : List C) (W : World) : Prop := ∃ E, RS [] w0 gp M (E ++ K) L W
section
variable {w0 w w' : World} {gp : Nat} {M : List (Nat × List C)} {E K : List (Nat × Obj)} {L : List C}
theorem RSy.of (T : RS [] w0 gp M (E ++ K) L w) : RSy w0 gp M K L w := ⟨E, T⟩
theorem RSy.of0 (T : RS [] w0 gp M K L w) : RSy w0 gp M K L w := ⟨[], T⟩
theorem RSy.drew (h : RSy w0 gp M K L w) : RSy w0 gp M K L w.drew := by obtain ⟨E, T⟩ := h; exact ⟨E, T.drew⟩
theorem RSy.alloc (h : RSy w0 gp M K L w) (o : Obj) : RSy w0 gp M K L (w.alloc o) := by obtain ⟨E, T⟩ := h; exact ⟨_ :: E, T.alloc o⟩
theorem RSy.cells {g : Nat} {cs : Array Value} {T : TypeId} {fz : Nat × Nat} (hm : (g, Obj.cells cs T fz) ∈ K) : ∀ W, RSy w0 gp M K L W → ∀ i, W.cell? ⟨g, i, none⟩ = cs[i]? := by
 rintro W ⟨E, T⟩ i; exact cells_of (T.box _ (List.mem_append_right _ hm)) i
def RWx (w0 : World) (gp : Nat) (M : List (Nat × List C)) (K : List (Nat × Obj)) (L : List C) (o : O) (s : Value) (W : World) : Prop := ∃ b, s = ptr b ∧ RS [] w0 gp M ((b, obox o) :: K) L W
theorem RWx.mk {b : Nat} {kk : Int} {kx : Bool} {kn kp kl : Int} {ks : ByteArray} (T : RS [] w0 gp M ((b, Obj.cells #[.int .i64 kk, .bool kx, .int .i64 kn, .int .i64 kp, .int .i64 kl, .string ks] 39) :: K) L w) : RWx w0 gp M K L ⟨kk, kx, kn, kp, kl, ks⟩ (ptr b) w := ⟨b, rfl, T⟩
theorem RScp.chg {ds : List O} (S : RScp w0 w gp M K L sp ds) : Chg NoB w0 w := by
 obtain ⟨g, cap, cur, -, -, -, -, E, H, A⟩ := S; exact A.chg
end
theorem q_row {n : Nat} {cur : Array Value} (h : cur.toList.take ((dsQ n).length * 6) = (dsQ n).flatMap O.cells) (i : Nat) (hi : i < n) : cur[i * 6]? = some (.int .i64 10) ∧ cur[i * 6 + 1]? = some (.bool false) ∧ cur[i * 6 + 2]? = some (.int .i64 i) ∧ cur[i * 6 + 3]? = some (.int .i64 0) ∧ cur[i * 6 + 4]? = some (.int .i64 0) ∧ cur[i * 6 + 5]? = some (.string ⟨#[]⟩) := by
 have hc : ∀ j, j < (dsQ n).length * 6 → cur[j]? = ((dsQ n).flatMap O.cells)[j]? := fun j hj => by
  rw [← h, List.getElem?_take, if_pos hj, Array.getElem?_toList]
 exact row_item hc (o := dcn i) (by rw [dsQ, List.getElem?_map, List.getElem?_range hi]; rfl)
def AtP (v : O) (e : Int) (n : Nat) (r : Ending) : Prop := ∃ i : Int, r = .returned (.tuple #[v.val, .int .i64 i, .int .i64 e]) ∧ (e = 0 → ∃ m : Nat, m < n ∧ i = m)
set_option maxRecDepth 100000 in
set_option maxHeartbeats 8000000 in
theorem rat16_any (Q : List DQ) (hQ1 : OKQ Q) (X : List C) (n : Nat) (hn : n ≤ Q.length) (hn2 : n ≤ 20) (S : RScp w0 w gp M K (hQ Q ++ X) sp (dsQ n)) (ex : Bool) (s : ByteArray) (hs : s.size ≤ 100) :
 Calls Tryz.prog 125 #[ptr sp, O.val ⟨5, ex, 0, 0, 0, s⟩] w fun r w' => AtP (lookN Q (nameO s) n).1 (lookN Q (nameO s) n).2.2 n r ∧ RScp w0 w' gp M K (hQ Q ++ X) sp (dsQ n) := by
 obtain ⟨g, cap, cur, c1, c2, c3, c4, T⟩ := S
 obtain ⟨L, hL⟩ : ∃ L, L = hQ Q ++ X := ⟨_, rfl⟩
 rw [← hL] at T ⊢; have HROW := hid' (q_row c4); have hkey : keyD L ⟨5, ex, 0, 0, 0, s⟩ = (nameO s, 0) := key_name L s ex hs; have HK := hid' (fun E (W : World) K' (T : RS [] w0 gp M (E ++ K') L W) => T.ask fun E2 H A => rkey_any H A (fun q hq => List.mem_append_left _ hq) ⟨5, ex, 0, 0, 0, s⟩ hkey)
 have HG := hid' (fun (i : Nat) (hi : i < n) E (W : World) K' (T : RS [] w0 gp M (E ++ K') L W) => T.ask fun E2 H A => (by
  obtain ⟨D, b1, b2, b3⟩ := q_at Q hQ1 i Q[i] (List.getElem?_eq_getElem (by omega)); have D' := D.app X; rw [← hL] at D'
  have hg : getK (Q.getD i ([], 0, false)).1 (nameO s) = getK Q[i].1 (nameO s) := by rw [List.getD_eq_getElem?_getD, List.getElem?_eq_getElem (by omega)]; rfl
  have := rgetK_any H A (fun q hq => List.mem_append_left _ hq) i Q[i].1 Q[i].2.1 D' b1 b2 ⟨5, ex, 0, 0, 0, s⟩ hkey (v := (getK Q[i].1 (nameO s)).getD O.nil) (f := if (getK Q[i].1 (nameO s)).isSome then 0 else 9) (by
   cases hgg : getK Q[i].1 (nameO s) with
   | none => exact .inr (.inl ⟨rfl, rfl, rfl, rfl⟩)
   | some v => exact .inr (.inr ⟨rfl, rfl, rfl⟩))
  rw [← hg] at this
  exact this : Calls Tryz.prog 149 #[ptr gp, (dcn i).val, O.val ⟨5, ex, 0, 0, 0, s⟩] W fun r w' => r = .returned (.tuple #[((getK (Q.getD i ([], 0, false)).1 (nameO s)).getD O.nil).val, .int .i64 (if (getK (Q.getD i ([], 0, false)).1 (nameO s)).isSome then 0 else 9)]) ∧ Ats w0 w' M (E2 ++ (E ++ K'))))
 have hnl := dsQ_length n; have HFIN := hid' (fun (b3 : Nat) (W : World) (T : RS [] w0 gp M ((b3, Obj.cells #[.int .i64 5, .bool ex, .int .i64 0, .int .i64 0, .int .i64 0, .string s] 39) :: (g, .cells cur 39) :: (sp, .cells #[ptr gp, .slice (some ⟨g, 0, none⟩) (dsQ n).length cap] 74) :: K) L W) => (show RScp w0 W gp M K L sp (dsQ n) from ⟨g, cap, cur, c1, c2, c3, c4, T.keep (List.sublist_cons_self _ _)⟩)); rw [hnl] at c1 HFIN; have T1 := (T.alloc (Obj.cells #[.int .i64 5, .bool ex, .int .i64 0, .int .i64 0, .int .i64 0, .string s] 39)).alloc (Obj.cells #[.int .i64 0, .bool false, .int .i64 0, .int .i64 0, .int .i64 0, .string ⟨#[]⟩] 39); simp only [World.size_alloc] at T1; rw [hnl] at T1
 have hcap : (n : Int) ≤ cap := by omega
 have hn20 : (n : Int) ≤ 20 := by omega
 clear T hL hkey hQ1 hn c1 c2 c3 c4 hnl; go_enter Tryz.func125, Tryz.ntmps125
 go_upto_region 1 with (fail)
 generalize hg4 : w.heap.size = b3 at *; generalize hW : World.alloc _ _ = w1 at *; clear hW hg4
 obtain ⟨KR, hKR⟩ : ∃ KR, KR = (b3, Obj.cells #[.int .i64 5, .bool ex, .int .i64 0, .int .i64 0, .int .i64 0, .string s] 39) :: (g, .cells cur 39) :: (sp, .cells #[ptr gp, .slice (some ⟨g, 0, none⟩) n cap] 74) :: K := ⟨_, rfl⟩
 obtain ⟨KB, hKB⟩ : ∃ KB, KB = (b3 + 1, Obj.cells #[.int .i64 0, .bool false, .int .i64 0, .int .i64 0, .int .i64 0, .string ⟨#[]⟩] 39) :: KR := ⟨_, rfl⟩
 have HF2 := hid' (HFIN.out b3); rw [← hKR] at T1 HF2; rw [← hKB] at T1
 have m3' : (b3, Obj.cells #[.int .i64 5, .bool ex, .int .i64 0, .int .i64 0, .int .i64 0, .string s] 39) ∈ KB := by rw [hKB, hKR]; exact m1
 have mg : (g, Obj.cells cur 39) ∈ KB := by rw [hKB, hKR]; exact m2
 have msp : (sp, Obj.cells #[ptr gp, .slice (some ⟨g, 0, none⟩) n cap] 74) ∈ KB := by rw [hKB, hKR]; exact m3
 have HKB := hid' hKB; clear hKR hKB HFIN; have RC3 := RSy.cells (w0 := w0) (gp := gp) (M := M) (L := L) m3'; have RCg := RSy.cells (w0 := w0) (gp := gp) (M := M) (L := L) mg; have RCs := RSy.cells (w0 := w0) (gp := gp) (M := M) (L := L) msp; have l3 := blk_lt (T1.box _ m3'); have lg := blk_lt (T1.box _ mg); have ls := blk_lt (T1.box _ msp); simp only at l3 lg ls; have HK2 := hid' (fun E (W : World) (T : RS [] w0 gp M (E ++ KB) L W) => HK.out E W KB T); have HG2 := hid' (fun (i : Nat) (hi : i < n) E (W : World) (T : RS [] w0 gp M (E ++ KB) L W) => HG.out i hi E W KB T); have T2 := T1; clear T1 HK HG
 go_upto_region 1 with (fail)
 go_cut [7, 8] (fun s7 s8 wx => s8 = .int .i64 0 ∧ RWx w0 gp M KB L (nameO s) s7 wx)
 case first =>
  have hY := RSy.of0 T2; have E0 : RS [] w0 gp M ([] ++ KB) L w1.drew := T2.drew; have E1 : RS [] w0 gp M ([(w1.heap.size, Obj.cells #[.int .i64 0, .bool false, .int .i64 0, .int .i64 0, .int .i64 0, .string ⟨#[]⟩] 39)] ++ KB) L (w1.alloc (Obj.cells #[.int .i64 0, .bool false, .int .i64 0, .int .i64 0, .int .i64 0, .string ⟨#[]⟩] 39)).drew := (T2.alloc _).drew; have F0 : RSy w0 gp M KB L w1.drew := RSy.of E0; have F1 : RSy w0 gp M KB L (w1.alloc (Obj.cells #[.int .i64 0, .bool false, .int .i64 0, .int .i64 0, .int .i64 0, .string ⟨#[]⟩] 39)).drew := RSy.of E1; clear T2
  go_region_held3 (fun W' => RSy w0 gp M KB L W') (first | (with_reducible assumption) | (with_reducible exact RSy.alloc (by with_reducible assumption) _) | (with_reducible exact RSy.drew (by with_reducible assumption)) | (with_reducible exact RSy.drew (RSy.alloc (by with_reducible assumption) _)))
   ((go_at_call 108; refine (HK2.out _ _ (by with_reducible assumption)).mono ?_; rintro r wb ⟨rfl, SB⟩; have hB0 := RSy.of SB; (try simp only [List.cons_append, List.nil_append] at SB); (try have yz := blk_lt (SB.box _ m0)); (try simp only at yz); (try have Rz := cells_of (SB.box _ m0)); (try simp only at Rz); (try have Zz := free_of (SB.box _ m0)); (try simp only at Zz); (try (with_reducible have t1 := RSy.of (E := [_]) (K := KB) (SB.putO 5 false 0 0 0 s)))))
  all_goals
   go_wp2_with fail
   go_meet
  · have S9 := SB.alloc (Obj.cells #[.int .i64 5, .bool false, .int .i64 0, .int .i64 0, .int .i64 0, .string s] 39)
    with_reducible exact ⟨rfl, RWx.mk S9⟩
  · with_reducible exact ⟨rfl, RWx.mk (SB.putO 5 false 0 0 0 s)⟩
 case rest =>
 obtain ⟨rfl, b7, rfl, T3⟩ := hcut; clear HK2 l3 lg ls; have T4 := T3.keep (List.sublist_cons_self _ _); have Rs := cells_of (T4.box _ msp); have ys := blk_lt (T4.box _ msp); simp only at Rs ys; have vn := IntWalk.i64_in ((n : Int) - 1) (by omega); clear T2 T3; go_wp2_with fail
 clear Rs ys
 go_loopw [9] (fun iv wr => ∃ m : Nat, m ≤ n ∧ iv = .int .i64 ((m : Int) - 1) ∧ Hid (lookN Q (nameO s) n = lookN Q (nameO s) m) ∧ RS [] w0 gp M KB L wr) (fun iv _ => (intOf iv + 1).toNat)
 case atStart => exact ⟨n, Nat.le_refl _, rfl, hid' rfl, T4⟩
 case round =>
 obtain ⟨m, hmn, rfl, HLK, T5⟩ := hrel; clear T4
 by_cases hm0 : m = 0
 · subst hm0; have T6 := T5; rw [HKB.out] at T6
   (try clear Rb); (try clear yb); (try clear Zb)
   have Rb := cells_of (T6.box _ m0); have yb := blk_lt (T6.box _ m0); have Zb := free_of (T6.box _ m0)
   (try simp only at Rb yb Zb)
   have T7 := T6.putO 0 false 0 0 0 ⟨#[]⟩; go_wp2_with fail
   have R7 := cells_of (T7.box _ m0); refine bodyPost_ret (v := .tuple #[O.nil.val, .int .i64 (-1), .int .i64 9]) ?_ rfl ⟨⟨-1, by rw [HLK.out]; rfl, fun h => by rw [HLK.out] at h; exact absurd (show (9 : Int) = 0 from h) (by decide)⟩, HF2.out _ (T7.keep (List.sublist_cons_self _ _))⟩; simp [results, Tryz.results125, go_sem, R7, O.nil]
 · obtain ⟨q, rfl⟩ : ∃ q, m = q + 1 := ⟨m - 1, by omega⟩
   have hq1 : ((q + 1 : Nat) : Int) - 1 = q := by omega
   rw [hq1]
   have hqn : (q : Int) < n := by omega
   have hq0 : (0 : Int) ≤ q := by omega
   have vq := IntWalk.i64_in ((q : Int) - 1) (by omega); obtain ⟨r0, r1, r2, r3, r4, r5⟩ := HROW.out q (by omega); have q0 : ∀ W, RSy w0 gp M KB L W → W.cell? ⟨g, q * 6, none⟩ = some (.int .i64 10) := fun W h => (RCg W h _).trans r0; have q1 : ∀ W, RSy w0 gp M KB L W → W.cell? ⟨g, q * 6 + 1, none⟩ = some (.bool false) := fun W h => (RCg W h _).trans r1; have q2 : ∀ W, RSy w0 gp M KB L W → W.cell? ⟨g, q * 6 + 2, none⟩ = some (.int .i64 q) := fun W h => (RCg W h _).trans r2; have q3 : ∀ W, RSy w0 gp M KB L W → W.cell? ⟨g, q * 6 + 3, none⟩ = some (.int .i64 0) := fun W h => (RCg W h _).trans r3; have q4 : ∀ W, RSy w0 gp M KB L W → W.cell? ⟨g, q * 6 + 4, none⟩ = some (.int .i64 0) := fun W h => (RCg W h _).trans r4; have q5 : ∀ W, RSy w0 gp M KB L W → W.cell? ⟨g, q * 6 + 5, none⟩ = some (.string ⟨#[]⟩) := fun W h => (RCg W h _).trans r5; clear r0 r1 r2 r3 r4 r5 RCg; have l3 := blk_lt (T5.box _ m3'); have lg := blk_lt (T5.box _ mg); have ls := blk_lt (T5.box _ msp); simp only at l3 lg ls; have HGQ := hid' (HG2.out q (by omega)); have T2 := T5; clear T5 hm0 hq1
   cases hgk : getK (Q.getD q ([], 0, false)).1 (nameO s) with
   | none =>
    rw [hgk] at HGQ; simp only [Option.getD_none, Option.isSome_none, Bool.false_eq_true, if_false] at HGQ; rw [show O.nil = ⟨0, false, 0, 0, 0, ⟨#[]⟩⟩ from rfl] at HGQ; have HGQ' : Hid (∀ (E : List (Nat × Obj)) (W : World), RS [] w0 gp M (E ++ KB) L W → Calls Tryz.prog 149 #[ptr gp, .agg #[.int .i64 10, .bool false, .int .i64 q, .int .i64 0, .int .i64 0, .string ⟨#[]⟩], .agg #[.int .i64 5, .bool ex, .int .i64 0, .int .i64 0, .int .i64 0, .string s]] W fun r w' => r = .returned (.tuple #[.agg #[.int .i64 0, .bool false, .int .i64 0, .int .i64 0, .int .i64 0, .string ⟨#[]⟩], .int .i64 9]) ∧ RS [] w0 gp M (E ++ KB) L w') := HGQ; clear HGQ; have HL2 : Hid (lookN Q (nameO s) n = lookN Q (nameO s) q) := hid' (by rw [HLK.out, lookN, hgk]); clear hgk HLK
    go_upto_region 7 with (fail)
    go_cut [10, 11] (fun s7 s8 wx => s8 = .int .i64 9 ∧ RWx w0 gp M KB L ⟨0, false, 0, 0, 0, ⟨#[]⟩⟩ s7 wx)
    case first =>
     have hY := RSy.of0 T2; have E0 : RS [] w0 gp M ([] ++ KB) L wr.drew := T2.drew; have E1 : RS [] w0 gp M ([(wr.heap.size, Obj.cells #[.int .i64 0, .bool false, .int .i64 0, .int .i64 0, .int .i64 0, .string ⟨#[]⟩] 39)] ++ KB) L (wr.alloc (Obj.cells #[.int .i64 0, .bool false, .int .i64 0, .int .i64 0, .int .i64 0, .string ⟨#[]⟩] 39)).drew := (T2.alloc _).drew; have F0 : RSy w0 gp M KB L wr.drew := RSy.of E0; have F1 : RSy w0 gp M KB L (wr.alloc (Obj.cells #[.int .i64 0, .bool false, .int .i64 0, .int .i64 0, .int .i64 0, .string ⟨#[]⟩] 39)).drew := RSy.of E1; clear T2
     go_region_held3 (fun W' => RSy w0 gp M KB L W') (first | (with_reducible assumption) | (with_reducible exact RSy.alloc (by with_reducible assumption) _) | (with_reducible exact RSy.drew (by with_reducible assumption)) | (with_reducible exact RSy.drew (RSy.alloc (by with_reducible assumption) _)))
      ((go_at_call 149; refine (HGQ'.out _ _ (by with_reducible assumption)).mono ?_; rintro r wb ⟨rfl, SB⟩; have hB0 := RSy.of SB; (try simp only [List.cons_append, List.nil_append] at SB); (try have yz := blk_lt (SB.box _ m0)); (try simp only at yz); (try have Rz := cells_of (SB.box _ m0)); (try simp only at Rz); (try have Zz := free_of (SB.box _ m0)); (try simp only at Zz); (try (with_reducible have t1 := RSy.of (E := [_]) (K := KB) (SB.putO 0 false 0 0 0 ⟨#[]⟩)))))
     all_goals
      go_wp2_with fail
      go_meet
     · have S9 := SB.alloc (Obj.cells #[.int .i64 0, .bool false, .int .i64 0, .int .i64 0, .int .i64 0, .string ⟨#[]⟩] 39)
       with_reducible exact ⟨rfl, RWx.mk S9⟩
     · with_reducible exact ⟨rfl, RWx.mk (SB.putO 0 false 0 0 0 ⟨#[]⟩)⟩
    case rest =>
    obtain ⟨rfl, b10, rfl, T3⟩ := hcut; clear HGQ' l3 lg ls; have T4 := T3.keep (List.sublist_cons_self _ _); clear T2 T3; go_wp2_with fail
    go_roundw
    case rel => exact ⟨q, by omega, by go_num, HL2, T4⟩
    case measure => simp [intOf]
   | some v =>
    rw [hgk] at HGQ; simp only [Option.getD_some, Option.isSome_some, if_true] at HGQ; have HL2 : Hid (lookN Q (nameO s) n = (v, dcn q, 0)) := hid' (by rw [HLK.out, lookN, hgk]); clear hgk HLK; obtain ⟨vk, vx, vn', vp, vl, vs⟩ := v
    go_upto_region 7 with (fail)
    go_cut [10, 11] (fun s7 s8 wx => s8 = .int .i64 0 ∧ RWx w0 gp M KB L ⟨vk, vx, vn', vp, vl, vs⟩ s7 wx)
    case first =>
     have hY := RSy.of0 T2; have E0 : RS [] w0 gp M ([] ++ KB) L wr.drew := T2.drew; have E1 : RS [] w0 gp M ([(wr.heap.size, Obj.cells #[.int .i64 0, .bool false, .int .i64 0, .int .i64 0, .int .i64 0, .string ⟨#[]⟩] 39)] ++ KB) L (wr.alloc (Obj.cells #[.int .i64 0, .bool false, .int .i64 0, .int .i64 0, .int .i64 0, .string ⟨#[]⟩] 39)).drew := (T2.alloc _).drew; have F0 : RSy w0 gp M KB L wr.drew := RSy.of E0; have F1 : RSy w0 gp M KB L (wr.alloc (Obj.cells #[.int .i64 0, .bool false, .int .i64 0, .int .i64 0, .int .i64 0, .string ⟨#[]⟩] 39)).drew := RSy.of E1; clear T2
     go_region_held3 (fun W' => RSy w0 gp M KB L W') (first | (with_reducible assumption) | (with_reducible exact RSy.alloc (by with_reducible assumption) _) | (with_reducible exact RSy.drew (by with_reducible assumption)) | (with_reducible exact RSy.drew (RSy.alloc (by with_reducible assumption) _)))
      ((go_at_call 149; refine (HGQ.out _ _ (by with_reducible assumption)).mono ?_; rintro r wb ⟨rfl, SB⟩; have hB0 := RSy.of SB; (try simp only [List.cons_append, List.nil_append] at SB); (try have yz := blk_lt (SB.box _ m0)); (try simp only at yz); (try have Rz := cells_of (SB.box _ m0)); (try simp only at Rz); (try have Zz := free_of (SB.box _ m0)); (try simp only at Zz); (try (with_reducible have t1 := RSy.of (E := [_]) (K := KB) (SB.putO vk vx vn' vp vl vs)))))
     all_goals
      go_wp2_with fail
      go_meet
     · have S9 := SB.alloc (Obj.cells #[.int .i64 vk, .bool vx, .int .i64 vn', .int .i64 vp, .int .i64 vl, .string vs] 39)
       with_reducible exact ⟨rfl, RWx.mk S9⟩
     · with_reducible exact ⟨rfl, RWx.mk (SB.putO vk vx vn' vp vl vs)⟩
    case rest =>
    obtain ⟨rfl, b10, rfl, T3⟩ := hcut; clear HGQ l3 lg ls; rw [HKB.out] at T3; have T4 := T3.perm (List.Perm.swap _ _ _)
    (try clear Rb); (try clear yb); (try clear Zb)
    have Rb := cells_of (T4.box _ m0); have yb := blk_lt (T4.box _ m0); have Zb := free_of (T4.box _ m0)
    (try clear Rv); (try clear yv); (try clear Zv)
    have Rv := cells_of (T4.box _ m1); have yv := blk_lt (T4.box _ m1)
    (try simp only at Rb yb Zb Rv yv)
    have T5 := T4.putO vk vx vn' vp vl vs; clear T2; go_wp2_with fail
    have R7 := cells_of (T5.box _ m0); refine bodyPost_ret (v := .tuple #[O.val ⟨vk, vx, vn', vp, vl, vs⟩, .int .i64 q, .int .i64 0]) ?_ rfl ⟨⟨q, by rw [HL2.out], fun _ => ⟨q, by omega, rfl⟩⟩, HF2.out _ (T5.keep ((List.sublist_cons_self _ _).trans (List.sublist_cons_self _ _)))⟩; simp [results, Tryz.results125, go_sem, R7]
end
section
section
variable {w0 w w' : World} {gp sp : Nat} {M : List (Nat × List C)} {K K' : List (Nat × Obj)} {L L' : List C} {ds : List O}
theorem RScp.over (S : RScp w0 w gp M K L sp ds) (h : ∀ a b, RS [] w0 gp M (a :: b :: K) L w → RS [] w0 gp M (a :: b :: K') L' w') : RScp w0 w' gp M K' L' sp ds := by
 obtain ⟨g, cap, cur, h1, h2, h3, h4, T⟩ := S; exact ⟨g, cap, cur, h1, h2, h3, h4, h _ _ T⟩
theorem permX3 {α : Type} (x a b : α) (l : List α) : (x :: a :: b :: l).Perm (a :: b :: x :: l) := (List.Perm.swap _ _ _).trans ((List.Perm.swap _ _ _).cons _)
theorem RScp.alloc (S : RScp w0 w gp M K L sp ds) (o : Obj) : RScp w0 (w.alloc o) gp M ((w.heap.size, o) :: K) L sp ds := S.over fun _a _b T => (T.alloc o).perm (permX3 _ _ _ _)
theorem RScp.keep (S : RScp w0 w gp M K L sp ds) (h : K'.Sublist K) : RScp w0 w gp M K' L sp ds := S.over fun _ _ T => T.keep ((h.cons_cons _).cons_cons _)
theorem RScp.perm (S : RScp w0 w gp M K L sp ds) (h : K.Perm K') : RScp w0 w gp M K' L sp ds := S.over fun _ _ T => T.perm ((h.cons _).cons _)
theorem RScp.pure (S : RScp w0 w gp M K L sp ds) (X : Chg NoB w w') : RScp w0 w' gp M K L sp ds := S.over fun _ _ T => T.pure X
theorem RScp.box (S : RScp w0 w gp M K L sp ds) (q : Nat × Obj) (hq : q ∈ K) : w.heap[q.1]? = some q.2 := by
 obtain ⟨g, cap, cur, h1, h2, h3, h4, T⟩ := S; exact T.box q (List.mem_cons_of_mem _ (List.mem_cons_of_mem _ hq))
theorem RScp.putO {b : Nat} {c0 c1 c2 c3 c4 c5 : Value} {T' : TypeId} (S : RScp w0 w gp M ((b, .cells #[c0, c1, c2, c3, c4, c5] T') :: K) L sp ds) (kk : Int) (kx : Bool) (kn kp kl : Int) (ks : ByteArray) :
 RScp w0 ((((((w.setCell ⟨b, 0, none⟩ (.int .i64 kk)).setCell ⟨b, 1, none⟩ (.bool kx)).setCell ⟨b, 2, none⟩ (.int .i64 kn)).setCell ⟨b, 3, none⟩ (.int .i64 kp)).setCell ⟨b, 4, none⟩ (.int .i64 kl)).setCell ⟨b, 5, none⟩ (.string ks)) gp M ((b, .cells #[.int .i64 kk, .bool kx, .int .i64 kn, .int .i64 kp, .int .i64 kl, .string ks] T') :: K) L sp ds :=
 S.over fun _a _b' T => ((T.perm (permX3 _ _ _ _).symm).putO kk kx kn kp kl ks).perm (permX3 _ _ _ _)
end
theorem look_nil (Q : List DQ) (key : O) : ∀ n, (lookN Q key n).2.2 ≠ 0 → (lookN Q key n).1 = O.nil ∧ (lookN Q key n).2.2 = 9
 | 0, _ => ⟨rfl, rfl⟩
 | n + 1, h => by
  unfold lookN at h ⊢
  cases hg : getK (Q.getD n ([], 0, false)).1 key with
  | none => rw [hg] at h; exact look_nil Q key n h
  | some v => rw [hg] at h; exact absurd rfl h
set_option maxRecDepth 100000 in
set_option maxHeartbeats 8000000 in
theorem rfind16_any (Q : List DQ) (hQ1 : OKQ Q) (X : List C) (n : Nat) (hn : n ≤ Q.length) (hn2 : n ≤ 20) (S : RScp w0 w gp M K (hQ Q ++ X) sp (dsQ n)) (ex : Bool) (s : ByteArray) (hs : s.size ≤ 100) :
 Calls Tryz.prog 83 #[ptr sp, O.val ⟨5, ex, 0, 0, 0, s⟩] w fun r w' => (∃ d : O, r = .returned (.tuple #[(lookN Q (nameO s) n).1.val, d.val, .int .i64 (lookN Q (nameO s) n).2.2])) ∧ RScp w0 w' gp M K (hQ Q ++ X) sp (dsQ n) := by
 obtain ⟨L, hL⟩ : ∃ L, L = hQ Q ++ X := ⟨_, rfl⟩
 have HAT := hid' (fun (W : World) K' (S : RScp w0 W gp M K' L sp (dsQ n)) => (show Calls Tryz.prog 125 #[ptr sp, O.val ⟨5, ex, 0, 0, 0, s⟩] W fun r w' => AtP (lookN Q (nameO s) n).1 (lookN Q (nameO s) n).2.2 n r ∧ RScp w0 w' gp M K' L sp (dsQ n) by
  rw [hL] at S ⊢
  exact rat16_any Q hQ1 X n hn hn2 S ex s hs))
 rw [← hL] at S ⊢; have hl := dsQ_length n; have hnil := look_nil Q (nameO s) n; generalize lookN Q (nameO s) n = R at *; obtain ⟨v, d0, e⟩ := R; simp only at HAT hnil; have HNIL := hid' (fun h => (hnil h).1); clear hnil; obtain ⟨vk, vx, vn, vp, vl, vs⟩ := v; have S1 := ((S.alloc (Obj.cells #[.int .i64 5, .bool ex, .int .i64 0, .int .i64 0, .int .i64 0, .string s] 39)).alloc (Obj.cells #[.int .i64 0, .bool false, .int .i64 0, .int .i64 0, .int .i64 0, .string ⟨#[]⟩] 39)).alloc (Obj.cells #[.int .i64 0, .bool false, .int .i64 0, .int .i64 0, .int .i64 0, .string ⟨#[]⟩] 39); simp only [World.size_alloc] at S1; clear S hQ1 hn hL hs; go_enter Tryz.func83, Tryz.ntmps83
 go_upto_region 1 with (fail)
 generalize hg3 : w.heap.size = b3 at *; generalize hW : World.alloc _ _ = w1 at *; clear hW hg3
 (try clear Rk); (try clear yk); (try clear Zk)
 have Rk := cells_of (S1.box _ m2); have yk := blk_lt (S1.box _ m2)
 (try simp only at Rk yk)
 go_wp2_with fail
 refine (HAT.out _ _ S1).mono ?_; rintro r w2 ⟨⟨i, rfl, hi⟩, S2⟩; clear S1 Rk yk HAT; have S3 := S2.alloc (Obj.cells #[.int .i64 vk, .bool vx, .int .i64 vn, .int .i64 vp, .int .i64 vl, .string vs] 39)
 go_upto_region 2 with (fail)
 generalize hg3 : w2.heap.size = b7 at *; generalize hW : World.alloc _ _ = w3 at *; clear hW hg3 S2
 by_cases he : e = 0
 · subst he; obtain ⟨m, hm, rfl⟩ := hi rfl; clear hi; obtain ⟨g, cap, cur, c1, c2, c3, c4, T⟩ := S3; obtain ⟨r0, r1, r2, r3, r4, r5⟩ := q_row c4 m hm; have HFIN := hid' (fun (W : World) (T : RS [] w0 gp M ((b7, Obj.cells #[.int .i64 vk, .bool vx, .int .i64 vn, .int .i64 vp, .int .i64 vl, .string vs] 39) :: (g, .cells cur 39) :: (sp, .cells #[ptr gp, .slice (some ⟨g, 0, none⟩) (dsQ n).length cap] 74) :: (b3, Obj.cells #[.int .i64 5, .bool ex, .int .i64 0, .int .i64 0, .int .i64 0, .string s] 39) :: K) L W) => (show RScp w0 W gp M K L sp (dsQ n) from ⟨g, cap, cur, c1, c2, c3, c4, T.keep ((((List.sublist_cons_self _ K).cons_cons _).cons_cons _).trans (List.sublist_cons_self _ _))⟩))
   have T1 := T.perm (K' := (b3 + 1, Obj.cells #[.int .i64 0, .bool false, .int .i64 0, .int .i64 0, .int .i64 0, .string ⟨#[]⟩] 39) :: (b3 + 1 + 1, Obj.cells #[.int .i64 0, .bool false, .int .i64 0, .int .i64 0, .int .i64 0, .string ⟨#[]⟩] 39) :: (b7, Obj.cells #[.int .i64 vk, .bool vx, .int .i64 vn, .int .i64 vp, .int .i64 vl, .string vs] 39) :: (g, .cells cur 39) :: (sp, .cells #[ptr gp, .slice (some ⟨g, 0, none⟩) (dsQ n).length cap] 74) :: (b3, Obj.cells #[.int .i64 5, .bool ex, .int .i64 0, .int .i64 0, .int .i64 0, .string s] 39) :: K) (by
    classical refine List.perm_iff_count.2 fun z => ?_
    simp only [List.count_cons]
    omega)
   rw [hl] at T1 HFIN c1
   obtain ⟨KB, hKB⟩ : ∃ KB, KB = (b7, Obj.cells #[.int .i64 vk, .bool vx, .int .i64 vn, .int .i64 vp, .int .i64 vl, .string vs] 39) :: (g, .cells cur 39) :: (sp, .cells #[ptr gp, .slice (some ⟨g, 0, none⟩) n cap] 74) :: (b3, Obj.cells #[.int .i64 5, .bool ex, .int .i64 0, .int .i64 0, .int .i64 0, .string s] 39) :: K := ⟨_, rfl⟩
   rw [← hKB] at T1 HFIN
   have n7 : (b7, Obj.cells #[.int .i64 vk, .bool vx, .int .i64 vn, .int .i64 vp, .int .i64 vl, .string vs] 39) ∈ KB := by rw [hKB]; exact m0
   have ng : (g, Obj.cells cur 39) ∈ KB := by rw [hKB]; exact m1
   have ns : (sp, Obj.cells #[ptr gp, .slice (some ⟨g, 0, none⟩) n cap] 74) ∈ KB := by rw [hKB]; exact m2
   clear hKB T hl c2 c3 c4
   have hcap : (n : Int) ≤ cap := by omega
   have hmn : (m : Int) < n := by omega
   have hm0 : (0 : Int) ≤ m := by omega
   have RC7 := RSy.cells (w0 := w0) (gp := gp) (M := M) (L := L) n7; have RCg := RSy.cells (w0 := w0) (gp := gp) (M := M) (L := L) ng; have RCs := RSy.cells (w0 := w0) (gp := gp) (M := M) (L := L) ns; have q0 : ∀ W, RSy w0 gp M KB L W → W.cell? ⟨g, m * 6, none⟩ = some (.int .i64 10) := fun W h => (RCg W h _).trans r0; have q1 : ∀ W, RSy w0 gp M KB L W → W.cell? ⟨g, m * 6 + 1, none⟩ = some (.bool false) := fun W h => (RCg W h _).trans r1; have q2 : ∀ W, RSy w0 gp M KB L W → W.cell? ⟨g, m * 6 + 2, none⟩ = some (.int .i64 m) := fun W h => (RCg W h _).trans r2; have q3 : ∀ W, RSy w0 gp M KB L W → W.cell? ⟨g, m * 6 + 3, none⟩ = some (.int .i64 0) := fun W h => (RCg W h _).trans r3; have q4 : ∀ W, RSy w0 gp M KB L W → W.cell? ⟨g, m * 6 + 4, none⟩ = some (.int .i64 0) := fun W h => (RCg W h _).trans r4; have q5 : ∀ W, RSy w0 gp M KB L W → W.cell? ⟨g, m * 6 + 5, none⟩ = some (.string ⟨#[]⟩) := fun W h => (RCg W h _).trans r5; clear r0 r1 r2 r3 r4 r5 RCg; have l7 := blk_lt (T1.box _ (List.mem_cons_of_mem _ (List.mem_cons_of_mem _ n7))); have lg := blk_lt (T1.box _ (List.mem_cons_of_mem _ (List.mem_cons_of_mem _ ng))); have ls := blk_lt (T1.box _ (List.mem_cons_of_mem _ (List.mem_cons_of_mem _ ns))); simp only at l7 lg ls; have T0 := T1.drew; have A1 := T1.putO vk vx vn vp vl vs; have A2 := (A1.perm (List.Perm.swap _ _ _)).putO 10 false m 0 0 ⟨#[]⟩; have y4 := blk_lt (T1.box _ m0); have Z4 := free_of (T1.box _ m0); have R4 := cells_of (T1.box _ m0); have y6 := blk_lt (A1.box _ m1); have Z6 := free_of (A1.box _ m1)
   have R6 := cells_of (A1.box _ m1); simp only at y4 Z4 R4 y6 Z6 R6; have F1 : RSy w0 gp M KB L w3.drew := RSy.of (E := [_, _]) T0; have F2 := RSy.of (E := [_, _]) (K := KB) A1.drew; have F3 := RSy.of (E := [_, _]) (K := KB) A2.drew; have HA2 := hid' A2.drew; clear T1 T0 A1 A2
   go_upto_region 4 with (fail)
   go_region_held3 (fun W' => RSy w0 gp M KB L W') (first | (with_reducible assumption)) (fail)
   have R4 := cells_of (HA2.out.box _ m1); have R5 := cells_of (HA2.out.box _ m0); go_wp2_with fail
   refine bodyPost_ret (v := .tuple #[O.val ⟨vk, vx, vn, vp, vl, vs⟩, (dcn m).val, .int .i64 0]) ?_ rfl ⟨⟨dcn m, rfl⟩, HFIN.out _ (HA2.out.keep ((List.sublist_cons_self _ _).trans (List.sublist_cons_self _ _)))⟩; simp [results, Tryz.results83, go_sem, R4, R5]
 · have hv := HNIL.out he; simp only [O.nil, O.mk.injEq] at hv; obtain ⟨rfl, rfl, rfl, rfl, rfl, rfl⟩ := hv
   have he2 : (e == 0) = false := by simpa using he
   have he3 : (e != 0) = true := by simpa using he
   have S4 := S3.perm (K' := (b3 + 1, Obj.cells #[.int .i64 0, .bool false, .int .i64 0, .int .i64 0, .int .i64 0, .string ⟨#[]⟩] 39) :: (b3 + 1 + 1, Obj.cells #[.int .i64 0, .bool false, .int .i64 0, .int .i64 0, .int .i64 0, .string ⟨#[]⟩] 39) :: (b7, Obj.cells #[.int .i64 0, .bool false, .int .i64 0, .int .i64 0, .int .i64 0, .string ⟨#[]⟩] 39) :: (b3, Obj.cells #[.int .i64 5, .bool ex, .int .i64 0, .int .i64 0, .int .i64 0, .string s] 39) :: K) (by
    classical refine List.perm_iff_count.2 fun z => ?_
    simp only [List.count_cons]
    omega)
   clear S3
   (try clear Rb); (try clear yb); (try clear Zb)
   have Rb := cells_of (S4.box _ m0); have yb := blk_lt (S4.box _ m0); have Zb := free_of (S4.box _ m0)
   (try simp only at Rb yb Zb)
   have S5 := S4.putO 0 false 0 0 0 ⟨#[]⟩; have S6 := S5.perm (List.Perm.swap _ _ _)
   (try clear Rc); (try clear yc); (try clear Zc)
   have Rc := cells_of (S6.box _ m0); have yc := blk_lt (S6.box _ m0); have Zc := free_of (S6.box _ m0)
   (try simp only at Rc yc Zc)
   have S7 := S6.putO 0 false 0 0 0 ⟨#[]⟩; clear S4 hi hl; go_wp2_with fail
   have R7 := cells_of (S7.box _ m1); have R8 := cells_of (S7.box _ m0); refine bodyPost_ret (v := .tuple #[O.nil.val, O.nil.val, .int .i64 e]) ?_ rfl ⟨⟨O.nil, rfl⟩, S7.keep ((((List.sublist_cons_self _ _).trans (List.sublist_cons_self _ _)).trans (List.sublist_cons_self _ _)).trans (List.sublist_cons_self _ _))⟩; simp [results, Tryz.results83, go_sem, R7, R8, O.nil]
end
section
def RSz (w0 : World) (gp : Nat) (M : List (Nat × List C)) (K : List (Nat × Obj)) (W : World) : Prop := ∃ L, RSy w0 gp M K L W
section
variable {w0 w w' : World} {gp sp : Nat} {M : List (Nat × List C)} {E K K' : List (Nat × Obj)} {L L' : List C} {ds : List O}
theorem RSz.of (T : RS [] w0 gp M (E ++ K) L w) : RSz w0 gp M K w := ⟨L, E, T⟩
theorem RSz.of0 (T : RS [] w0 gp M K L w) : RSz w0 gp M K w := ⟨L, [], T⟩
theorem RSz.drew (h : RSz w0 gp M K w) : RSz w0 gp M K w.drew := by obtain ⟨L, T⟩ := h; exact ⟨L, T.drew⟩
theorem RSz.cells {g : Nat} {cs : Array Value} {T : TypeId} {fz : Nat × Nat} (hm : (g, Obj.cells cs T fz) ∈ K) : ∀ W, RSz w0 gp M K W → ∀ i, W.cell? ⟨g, i, none⟩ = cs[i]? := by
 rintro W ⟨L, T⟩ i; exact RSy.cells hm W T i
theorem RScp.ask {f : Nat} {args : Array Value} {r : Value} (S : RScp w0 w gp M K L sp ds)
 (h : ∀ a b, RS [] w0 gp M (a :: b :: K) L w → Calls Tryz.prog f args w fun e w' => e = .returned r ∧ RS [] w0 gp M (a :: b :: K) L' w') :
 Calls Tryz.prog f args w fun e w' => e = .returned r ∧ RScp w0 w' gp M K L' sp ds := by
 obtain ⟨g, cap, cur, h1, h2, h3, h4, T⟩ := S
 exact (h _ _ T).mono fun e w' ⟨e1, T'⟩ => ⟨e1, g, cap, cur, h1, h2, h3, h4, T'⟩
theorem rs_array (n : Int) {o : O} {e : Int} (hr : arrayH L n = (L', o, e)) (T : RS [] w0 gp M K L w) : Calls Tryz.prog 82 #[ptr gp, .int .i64 n] w fun r w' => r = .returned (.tuple #[o.val, .int .i64 e]) ∧ RS [] w0 gp M K L' w' := by
 obtain ⟨E, H, A⟩ := T
 exact (rarray_any H A n hr).mono fun e w' ⟨h1, E', h2, h3⟩ => ⟨h1, E', h2, h3⟩
theorem rs_string (s : ByteArray) {o : O} {e : Int} (hr : stringH L s = (L', o, e)) (T : RS [] w0 gp M K L w) : Calls Tryz.prog 85 #[ptr gp, .string s] w fun r w' => r = .returned (.tuple #[o.val, .int .i64 e]) ∧ RS [] w0 gp M K L' w' := by
 obtain ⟨E, H, A⟩ := T
 exact (rstr_any H A s hr).mono fun e w' ⟨h1, E', h2, h3⟩ => ⟨h1, E', h2, h3⟩
end
set_option maxRecDepth 100000 in
set_option maxHeartbeats 4000000 in
theorem rdef16_any (S : RScp w0 w gp M K (hQ sysQ) sp (dsQ 2)) (s : ByteArray) (hs : s.size ≤ 100) (v : O) (hv : ∀ L, mayH L v = true) :
 Calls Tryz.prog 9 #[ptr sp, O.val ⟨5, false, 0, 0, 0, s⟩, v.val] w fun r w' => r = .returned (.int .i64 0) ∧ RScp w0 w' gp M K (hQ (sysQ.set 1 (setK [] (nameO s) v, 200, false))) sp (dsQ 2) := by
 obtain ⟨g, cap, cur, c1, c2, c3, c4, T⟩ := S; obtain ⟨r0, r1, r2, r3, r4, r5⟩ := q_row c4 1 (by decide)
 obtain ⟨L, hL⟩ : ∃ L, L = hQ sysQ := ⟨_, rfl⟩
 obtain ⟨L', hL'⟩ : ∃ L', L' = hQ (sysQ.set 1 (setK [] (nameO s) v, 200, false)) := ⟨_, rfl⟩
 rw [← hL] at T; rw [← hL']
 have hDA : DicAt L ((1 : Nat) : Int).toNat (dcell [] 200) := by rw [hL]; exact (q_at sysQ sysQ_ok 1 ([], 200, false) rfl).1
 have HST := hid' (fun E (W : World) K' (T : RS [] w0 gp M (E ++ K') L W) => rs_setK T 1 [] 200 hDA (by decide) (by decide) (nameO s) v (key_self _ s hs) (hv _)); rw [show L.set 1 (dcell (setK [] (nameO s) v) 200) = L' by rw [hL, hL']; rfl] at HST; have hl := dsQ_length 2; have HFIN := hid' (fun (b4 b5 : Nat × Obj) (W : World) (T : RS [] w0 gp M (b5 :: b4 :: (g, .cells cur 39) :: (sp, .cells #[ptr gp, .slice (some ⟨g, 0, none⟩) (dsQ 2).length cap] 74) :: K) L' W) => (show RScp w0 W gp M K L' sp (dsQ 2) from ⟨g, cap, cur, c1, c2, c3, c4, T.keep ((List.sublist_cons_self _ _).trans (List.sublist_cons_self _ _))⟩)); rw [hl] at T c1 HFIN; obtain ⟨vk, vx, vn, vp, vl, vs⟩ := v; have T1 := (T.alloc (Obj.cells #[.int .i64 5, .bool false, .int .i64 0, .int .i64 0, .int .i64 0, .string s] 39)).alloc (Obj.cells #[.int .i64 vk, .bool vx, .int .i64 vn, .int .i64 vp, .int .i64 vl, .string vs] 39); simp only [World.size_alloc] at T1
 have hcap : (2 : Int) ≤ cap := by omega
 have hcap2 : 2 ≤ cap := by omega
 have v1 := IntWalk.i64_in ((2 : Int) - 1) (by omega); have v2 := IntWalk.i64_in (1 : Int) (by omega); clear T c2 c3 c4 hL hL' hDA hl hs hv; go_enter Tryz.func9, Tryz.ntmps9
 go_upto_region 1 with (fail)
 generalize hg3 : w.heap.size = b4 at *; generalize hW : World.alloc _ _ = w1 at *; clear hW hg3; have HF2 := hid' (HFIN.out (b4, Obj.cells #[.int .i64 5, .bool false, .int .i64 0, .int .i64 0, .int .i64 0, .string s] 39) (b4 + 1, Obj.cells #[.int .i64 vk, .bool vx, .int .i64 vn, .int .i64 vp, .int .i64 vl, .string vs] 39))
 obtain ⟨KB, hKB⟩ : ∃ KB, KB = (b4 + 1, Obj.cells #[.int .i64 vk, .bool vx, .int .i64 vn, .int .i64 vp, .int .i64 vl, .string vs] 39) :: (b4, Obj.cells #[.int .i64 5, .bool false, .int .i64 0, .int .i64 0, .int .i64 0, .string s] 39) :: (g, .cells cur 39) :: (sp, .cells #[ptr gp, .slice (some ⟨g, 0, none⟩) 2 cap] 74) :: K := ⟨_, rfl⟩
 rw [← hKB] at T1 HF2
 have n5 : (b4 + 1, Obj.cells #[.int .i64 vk, .bool vx, .int .i64 vn, .int .i64 vp, .int .i64 vl, .string vs] 39) ∈ KB := by rw [hKB]; exact m0
 have n4 : (b4, Obj.cells #[.int .i64 5, .bool false, .int .i64 0, .int .i64 0, .int .i64 0, .string s] 39) ∈ KB := by rw [hKB]; exact m1
 have ng : (g, Obj.cells cur 39) ∈ KB := by rw [hKB]; exact m2
 have ns : (sp, Obj.cells #[ptr gp, .slice (some ⟨g, 0, none⟩) 2 cap] 74) ∈ KB := by rw [hKB]; exact m3
 clear hKB HFIN; have RC5 := RSz.cells (w0 := w0) (gp := gp) (M := M) n5; have RC4 := RSz.cells (w0 := w0) (gp := gp) (M := M) n4; have RCg := RSz.cells (w0 := w0) (gp := gp) (M := M) ng; have RCs := RSz.cells (w0 := w0) (gp := gp) (M := M) ns; have q0 : ∀ W, RSz w0 gp M KB W → W.cell? ⟨g, 6, none⟩ = some (.int .i64 10) := fun W h => (RCg W h _).trans r0; have q1 : ∀ W, RSz w0 gp M KB W → W.cell? ⟨g, 7, none⟩ = some (.bool false) := fun W h => (RCg W h _).trans r1; have q2 : ∀ W, RSz w0 gp M KB W → W.cell? ⟨g, 8, none⟩ = some (.int .i64 1) := fun W h => (RCg W h _).trans r2; have q3 : ∀ W, RSz w0 gp M KB W → W.cell? ⟨g, 9, none⟩ = some (.int .i64 0) := fun W h => (RCg W h _).trans r3; have q4 : ∀ W, RSz w0 gp M KB W → W.cell? ⟨g, 10, none⟩ = some (.int .i64 0) := fun W h => (RCg W h _).trans r4; have q5 : ∀ W, RSz w0 gp M KB W → W.cell? ⟨g, 11, none⟩ = some (.string ⟨#[]⟩) := fun W h => (RCg W h _).trans r5; clear r0 r1 r2 r3 r4 r5 RCg; have l5 := blk_lt (T1.box _ n5); have l4 := blk_lt (T1.box _ n4); have lg := blk_lt (T1.box _ ng); have ls := blk_lt (T1.box _ ns); simp only at l5 l4 lg ls; have HSW := hid' (fun (W : World) (T : RS [] w0 gp M ([] ++ KB) L W) => HST.out [] W KB T); have E0 : RS [] w0 gp M ([] ++ KB) L w1.drew := T1.drew; have hY := RSz.of0 T1; have hY2 := RSz.of E0; clear T1 HST
 go_region_held3 (fun W' => RSz w0 gp M KB W') (first | (with_reducible assumption) | (with_reducible exact RSz.drew (by with_reducible assumption)))
  ((go_at_call 34; refine (HSW.out _ (by with_reducible assumption)).mono ?_; rintro r wb ⟨rfl, SB⟩; have hB0 := RSz.of SB))
 go_wp2_with fail
 go_ret; exact ⟨rfl, HF2.out _ SB⟩
def arr19 (L : List C) (xs : List O) : List C × O × Int :=
 match arrayH L xs.length with
 | (L1, o, e) => if e = 0 then (setsB L1 o xs xs.length, o, 0) else (L1, O.nil, e)
theorem arr19_arrB (L : List C) (xs : List O) : arrB L xs = ((arr19 L xs).1, if (arr19 L xs).2.2 = 0 then { (arr19 L xs).2.1 with exec := true } else (arr19 L xs).2.1, (arr19 L xs).2.2) := by
 unfold arrB arr19; obtain ⟨L1, o, e⟩ := arrayH L xs.length; simp only
 by_cases h : e = 0
 · rw [if_pos h, if_pos h]; simp
 · rw [if_neg h, if_neg h]; simp [h]
set_option maxRecDepth 100000 in
set_option maxHeartbeats 4000000 in
theorem rarr19_any {L L' : List C} (T : RS [] w0 gp M K L w) (a : Option Addr) (n cap : Nat) (zs : List O) (hn : zs.length = n) (hc : n ≤ cap)
 (hrow : 0 < n → ∃ g cur fz, a = some ⟨g, 0, none⟩ ∧ (g, Obj.cells cur 39 fz) ∈ K ∧ ∀ i x, zs[i]? = some x → ∀ j, j < 6 → cur[i * 6 + j]? = x.cells[j]?) (hr : arr19 L zs = (L', o, e)) :
 Calls Tryz.prog 45 #[ptr gp, .slice a n cap] w fun r w' => r = .returned (.tuple #[o.val, .int .i64 e]) ∧ RS [] w0 gp M K L' w' := by
 obtain ⟨L1, o1, e1, ha⟩ : ∃ L1 o1 e1, arrayH L (n : Int) = (L1, o1, e1) := ⟨_, _, _, rfl⟩
 have hr2 : (if e1 = 0 then (setsB L1 o1 zs n, o1, 0) else (L1, O.nil, e1)) = (L', o, e) := by
  rw [← hr]; unfold arr19; rw [hn, ha]
 have hle : e1 = 0 → n ≤ 40000 := fun h => by
  subst h; unfold arrayH at ha; split at ha
  · simp at ha
  · omega
 have HK8 := hid' (show e1 = 0 → o1.kind ≠ 8 from fun h => by
  subst h; unfold arrayH makeH at ha
  repeat' split at ha
  all_goals first | (simp at ha; done) | (simp only [Prod.mk.injEq] at ha; rw [← ha.2.1]; simp [objOf, C.kind]))
 clear hr; have HAR := hid' (fun W K' (T : RS [] w0 gp M K' L W) => rs_array (n : Int) ha T); have HN := hid' hn; have HROW := hid' hrow; clear hn hrow ha; have T1 := T.alloc (Obj.cells #[.int .i64 0, .bool false, .int .i64 0, .int .i64 0, .int .i64 0, .string ⟨#[]⟩] 39); generalize hg : w.heap.size = b4 at *; go_enter Tryz.func45, Tryz.ntmps45
 go_upto_region 1 with (fail)
 generalize hW : w.alloc _ = w1 at *; clear hW hg T; go_wp2_with fail
 refine (HAR.out _ _ T1).mono ?_; rintro r w2 ⟨rfl, T2⟩; clear HAR T1; obtain ⟨ok, ox, on, op, ol, os⟩ := o1; have T3 := T2.alloc (Obj.cells #[.int .i64 ok, .bool ox, .int .i64 on, .int .i64 op, .int .i64 ol, .string os] 39); generalize hg : w2.heap.size = b6 at *
 go_upto_region 2 with (fail)
 generalize hW : w2.alloc _ = w3 at *; clear hW hg T2
 by_cases he : e1 = 0
 · subst he; rw [if_pos rfl] at hr2; simp only [Prod.mk.injEq] at hr2; obtain ⟨rfl, rfl, rfl⟩ := hr2
   have hni : (n : Int) ≤ 40000 := by have := hle rfl; omega
   clear hle
   obtain ⟨KB, hKB⟩ : ∃ KB, KB = (b6, Obj.cells #[.int .i64 ok, .bool ox, .int .i64 on, .int .i64 op, .int .i64 ol, .string os] 39) :: (b4, Obj.cells #[.int .i64 0, .bool false, .int .i64 0, .int .i64 0, .int .i64 0, .string ⟨#[]⟩] 39) :: K := ⟨_, rfl⟩
   have n6 : (b6, Obj.cells #[.int .i64 ok, .bool ox, .int .i64 on, .int .i64 op, .int .i64 ol, .string os] 39) ∈ KB := by rw [hKB]; exact m0
   have nK : ∀ q ∈ K, q ∈ KB := fun q hq => by rw [hKB]; exact List.mem_cons_of_mem _ (List.mem_cons_of_mem _ hq)
   have HKB := hid' hKB; have HNK := hid' nK
   have S0 : RS [] w0 gp M KB (setsB L1 ⟨ok, ox, on, op, ol, os⟩ zs 0) w3 := by rw [hKB]; exact T3
   clear nK hKB T3
   have hcn : (n : Int) ≤ cap := by omega
   have RC6 := RSz.cells (w0 := w0) (gp := gp) (M := M) n6; go_wp2_with fail
   go_loopw [8] (fun cv wr => ∃ j : Nat, j ≤ n ∧ cv = .int .i64 j ∧ RS [] w0 gp M KB (setsB L1 ⟨ok, ox, on, op, ol, os⟩ zs j) wr) (fun cv _ => n - (intOf cv).toNat)
   case atStart => exact ⟨0, Nat.zero_le _, rfl, S0⟩
   case round =>
   obtain ⟨j, hj, rfl, S1⟩ := hrel; clear S0
   by_cases hlt : j < n
   · have dj : (j : Int) < n := by omega
     have d0 : (0 : Int) ≤ j := by omega
     have v1 := IntWalk.i64_in ((j : Int) + 1) (by omega); obtain ⟨g, cur, fz, rfl, mg, hcur⟩ := HROW.out (by omega)
     obtain ⟨x, hx⟩ : ∃ x, zs[j]? = some x := ⟨_, List.getElem?_eq_getElem (by rw [HN.out]; exact hlt)⟩
     have h6 := hcur j x hx; have RCg := RSz.cells (w0 := w0) (gp := gp) (M := M) (HNK.out _ mg); have q0 : ∀ W, RSz w0 gp M KB W → W.cell? ⟨g, j * 6, none⟩ = some (.int .i64 x.kind) := fun W h => (RCg W h _).trans (h6 0 (by decide)); have q1 : ∀ W, RSz w0 gp M KB W → W.cell? ⟨g, j * 6 + 1, none⟩ = some (.bool x.exec) := fun W h => (RCg W h _).trans (h6 1 (by decide)); have q2 : ∀ W, RSz w0 gp M KB W → W.cell? ⟨g, j * 6 + 2, none⟩ = some (.int .i64 x.n) := fun W h => (RCg W h _).trans (h6 2 (by decide)); have q3 : ∀ W, RSz w0 gp M KB W → W.cell? ⟨g, j * 6 + 3, none⟩ = some (.int .i64 x.pos) := fun W h => (RCg W h _).trans (h6 3 (by decide)); have q4 : ∀ W, RSz w0 gp M KB W → W.cell? ⟨g, j * 6 + 4, none⟩ = some (.int .i64 x.len) := fun W h => (RCg W h _).trans (h6 4 (by decide)); have q5 : ∀ W, RSz w0 gp M KB W → W.cell? ⟨g, j * 6 + 5, none⟩ = some (.string x.s) := fun W h => (RCg W h _).trans (h6 5 (by decide)); have HSE := hid' (setsB_succ L1 ⟨ok, ox, on, op, ol, os⟩ zs j); rw [show zs.getD j O.nil = x by rw [List.getD_eq_getElem?_getD, hx]; rfl] at HSE; have HST := hid' (fun W (T : RS [] w0 gp M ([] ++ KB) (setsB L1 ⟨ok, ox, on, op, ol, os⟩ zs j) W) => rs_setN ⟨ok, ox, on, op, ol, os⟩ (j : Int) x (.inl (HK8.out trivial)) (L' := (setH (setsB L1 ⟨ok, ox, on, op, ol, os⟩ zs j) ⟨ok, ox, on, op, ol, os⟩ (j : Int) x).1) (e := (setH (setsB L1 ⟨ok, ox, on, op, ol, os⟩ zs j) ⟨ok, ox, on, op, ol, os⟩ (j : Int) x).2) rfl T); rw [← HSE.out] at HST; generalize (setH (setsB L1 ⟨ok, ox, on, op, ol, os⟩ zs j) ⟨ok, ox, on, op, ol, os⟩ (j : Int) x).2 = se at *
     obtain ⟨xk, xx, xn, xp, xl, xs⟩ := x; simp only at q0 q1 q2 q3 q4 q5; have l6 := blk_lt (S1.box _ n6); have lg := blk_lt (S1.box _ (HNK.out _ mg)); simp only at l6 lg; have E0 : RS [] w0 gp M ([] ++ KB) (setsB L1 ⟨ok, ox, on, op, ol, os⟩ zs j) wr.drew := S1.drew; have hY := RSz.of0 S1; have hY2 := RSz.of E0; clear h6 hcur hx RCg HSE S1
     go_upto_region 7 with (fail)
     go_region_held3 (fun W' => RSz w0 gp M KB W') (first | (with_reducible assumption) | (with_reducible exact RSz.drew (by with_reducible assumption)))
      ((go_at_call 69; refine (HST.out _ (by with_reducible assumption)).mono ?_; rintro r wb ⟨rfl, SB⟩; have hB0 := RSz.of SB))
     go_wp2_with fail
     go_roundw
     case rel => exact ⟨j + 1, by omega, by go_num, SB⟩
     case measure => simp [intOf]; omega
   · obtain rfl : j = n := by omega
     rw [HKB.out] at S1; have S2 := S1.perm (List.Perm.swap _ _ _)
     (try clear Rb); (try clear yb); (try clear Zb)
     have Rb := cells_of (S2.box _ m0); have yb := blk_lt (S2.box _ m0); have Zb := free_of (S2.box _ m0)
     (try clear Ro); (try clear yo); (try clear Zo)
     have Ro := cells_of (S2.box _ m1); have yo := blk_lt (S2.box _ m1)
     (try simp only at Rb yb Zb Ro yo)
     go_wp2_with fail
     have S3 := S2.putO ok ox on op ol os; have R3 := cells_of (S3.box _ m0); refine bodyPost_ret (v := .tuple #[O.val ⟨ok, ox, on, op, ol, os⟩, .int .i64 0]) ?_ rfl ⟨rfl, S3.keep ((List.sublist_cons_self _ _).trans (List.sublist_cons_self _ _))⟩; simp [results, Tryz.results45, go_sem, R3]
 · rw [if_neg he] at hr2; simp only [Prod.mk.injEq] at hr2; obtain ⟨rfl, rfl, rfl⟩ := hr2
   have he' : (e1 != 0) = true := by simpa using he
   have S2 := T3.perm (List.Perm.swap _ _ _)
   (try clear Rb); (try clear yb); (try clear Zb)
   have Rb := cells_of (S2.box _ m0); have yb := blk_lt (S2.box _ m0); have Zb := free_of (S2.box _ m0)
   (try simp only at Rb yb Zb)
   go_wp2_with fail
   have S3 := S2.putO 0 false 0 0 0 ⟨#[]⟩; have R3 := cells_of (S3.box _ m0); refine bodyPost_ret (v := .tuple #[O.val O.nil, .int .i64 e1]) ?_ rfl ⟨rfl, S3.keep ((List.sublist_cons_self _ _).trans (List.sublist_cons_self _ _))⟩; simp [results, Tryz.results45, go_sem, R3, O.nil]
theorem rname22_any (s : ByteArray) (w : World) : Calls Tryz.prog 84 #[.string s] w fun e w' => e = .returned (exeN s).val ∧ Chg NoB w w' := by
 go_enter Tryz.func84, Tryz.ntmps84
 go_wp2_with fail
 refine bodyPost_ret (v := (exeN s).val) ?_ rfl ⟨rfl, (Chg.refl NoB w).alloc _⟩; simp [results, Tryz.results84, go_sem]
end
end Go.Proofs.YtoogmimbmgdflaaGreat
