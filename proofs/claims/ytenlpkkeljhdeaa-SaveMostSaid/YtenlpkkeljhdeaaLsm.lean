/- Walk: tympanlaw13.SaveMost. -/
import Derived.Test.YtenlpkkeljhdeaaLsv
namespace Go.Proofs.Ytenlpkkeljhdeaa
open Go.RowKit

theorem Ats.renew {w0 w w' : World} {M : List (Nat × List C)} {K : List (Nat × Obj)} {b b' : Nat} {o o' : Obj} (A : Ats w0 w M ((b, o) :: K)) (X : Chg (· = b) w w') (hb : w'.heap[b']? = some o') (hg : b' = b ∨ w.heap.size ≤ b') : Ats w0 w' M ((b', o') :: K) := by
  obtain ⟨h, h1, H, X0, D, F, k, n⟩ := A
  obtain ⟨kb, kn, kg⟩ := k _ (List.mem_cons_self ..)
  simp only at kb kn kg
  have lt := reps_lt H
  have lk : ∀ q ∈ K, q.1 < w.heap.size := fun q hq => blk_lt (k q (List.mem_cons_of_mem _ hq)).1
  rw [List.map_cons, List.nodup_cons] at n
  refine ⟨h, h1, fun x hx => (H x hx).chg X fun c hc e => kn (List.mem_flatMap.2 ⟨x, hx, e ▸ hc⟩), X0.trans' X (fun i hi e => by omega), D, F, fun q hq => ?_, ?_⟩
  · rcases List.mem_cons.1 hq with rfl | hq
    · refine ⟨hb, fun hf => ?_, ?_⟩
      · rcases hg with rfl | hg
        · exact kn hf
        · have := lt _ hf; simp only at this; omega
      · rcases hg with rfl | hg
        · exact kg
        · exact Nat.le_trans X0.size hg
    · refine ⟨X.blk (k q (List.mem_cons_of_mem _ hq)).1 fun e => n.1 (List.mem_map.2 ⟨q, hq, e⟩), (k q (List.mem_cons_of_mem _ hq)).2⟩
  · rw [List.map_cons, List.nodup_cons]
    refine ⟨fun hm => ?_, n.2⟩
    obtain ⟨q, hq, e⟩ := List.mem_map.1 hm
    rcases hg with rfl | hg
    · exact n.1 (List.mem_map.2 ⟨q, hq, e⟩)
    · have := lk q hq; simp only at e; omega

/-- A slice of objects that a law made by appending, and its block among the boxes. -/
def RowOf (R : List (Nat × Obj)) (v : Value) (n : Nat) (xs : List Value) : Prop :=
  (v = .slice none 0 0 ∧ n = 0 ∧ xs = [] ∧ R = []) ∨
  ∃ g cap cur, v = .slice (some ⟨g, 0, none⟩) n cap ∧ R = [(g, .cells cur 29)] ∧ n ≤ cap ∧ cap ≤ maxLen ∧ cur.size = cap * 6 ∧ cur.toList.take (n * 6) = xs ∧ xs.length = n * 6
theorem Ats.owns {w0 w : World} {M : List (Nat × List C)} {X : Nat × Obj} {R : List (Nat × Obj)} {v : Value} {n : Nat} {xs : List Value} (A : Ats w0 w M (X :: R)) (h : RowOf R v n xs) : w.ownsRow w0.heap.size 29 6 v n xs := by
  rcases h with ⟨rfl, rfl, rfl, rfl⟩ | ⟨g, cap, cur, rfl, rfl, h1, h2, h3, h4, h5⟩
  · exact World.ownsRow_nil _ _ _ _
  · exact ⟨h5, .inr ⟨g, cap, cur, rfl, A.box_ge (g, .cells cur 29) m1, A.box (g, .cells cur 29) m1, h1, h2, h3, h4⟩⟩
theorem Ats.grown {w0 w w' : World} {M : List (Nat × List C)} {X : Nat × Obj} {R : List (Nat × Obj)} {v v' : Value} {n m : Nat} {xs xs' : List Value} (A : Ats w0 w M (X :: R)) (h : RowOf R v n xs)
    (hown : w'.ownsRow w0.heap.size 29 6 v' (n + m) xs') (hgr : w.grownBy w' v.ownBlock) (hob : v'.ownBlock = v.ownBlock ∨ v'.ownBlock = some w.heap.size) (hm : 0 < m) :
    ∃ R', RowOf R' v' (n + m) xs' ∧ Ats w0 w' M (X :: R') := by
  obtain ⟨hl, ⟨rfl, h0⟩ | ⟨g', cap', cur', rfl, hg0, hg', c1, c2, c3, c4⟩⟩ := hown
  · omega
  refine ⟨[(g', .cells cur' 29)], .inr ⟨g', cap', cur', rfl, rfl, c1, c2, c3, c4, hl⟩, ?_⟩
  rcases h with ⟨rfl, rfl, rfl, rfl⟩ | ⟨g, cap, cur, rfl, rfl, -⟩
  · have C1 : Chg NoB w w' := Chg.grown (Chg.refl NoB w) hgr (fun k hk => by simp [Value.ownBlock] at hk)
    refine (A.got C1 hg' ?_).perm p1
    rcases hob with e | e
    · simp [Value.ownBlock] at e
    · simp [Value.ownBlock] at e; omega
  · have C1 : Chg (· = g) w w' := Chg.grown (Chg.refl (· = g) w) hgr (fun k hk => by simp [Value.ownBlock] at hk; exact .inl hk.symm)
    refine ((A.perm p1).renew C1 hg' ?_).perm p1
    rcases hob with e | e
    · simp [Value.ownBlock] at e; exact .inl e
    · simp [Value.ownBlock] at e; exact .inr (by omega)
theorem cells_new1 (w : World) (o : Obj) (cs : List Value) (t : TypeId) : ∀ j u, cs[j]? = some u → ((w.alloc o).alloc (.cells cs.toArray t)).cell? ((⟨w.heap.size + 1, 0, none⟩ : Addr).add j) = some u := fun j u hj => by
  have hb := blk_new1 w o (.cells cs.toArray t)
  rw [add_off, cells_of hb, Nat.zero_add]; simpa using hj
def savedL (j : Nat) : List O := (List.range j).map fun (i : Nat) => svO ((i : Int) + 1)
theorem savedL_length (j : Nat) : (savedL j).length = j := by simp [savedL]
theorem savedL_succ (j : Nat) : (savedL (j + 1)).flatMap O.cells = (savedL j).flatMap O.cells ++ O.cells (svO ((j : Int) + 1)) := by
  simp [savedL, List.range_succ]
theorem savedL_at (j i : Nat) (h : i < j) : (savedL j)[i]? = some (svO ((i : Int) + 1)) := by simp [savedL, h]

/-- Behind j saves. -/
def MostInv (w : World) (hp sp j : Nat) (v : Value) (wr : World) : Prop :=
  ∃ (l : List (Int × Nat)) (M : List (Nat × List C)) (R : List (Nat × Obj)), Num l ∧ l.length = j ∧ (∀ q ∈ l, (q.2, []) ∈ M) ∧ RowOf R v j ((savedL j).flatMap O.cells) ∧ Ats w wr ((hp, []) :: M) ((sp, svBox l j) :: R)

set_option maxRecDepth 100000 in
set_option maxHeartbeats 8000000 in
theorem saveMost_any (a0 : Int) (l0 : 0 ≤ a0) (u0 : a0 < 256) (w : World) :
   Calls Try.prog 3 #[.int .u8 a0] w fun e w' => e = .returned (.bool true) ∧ Chg NoB w w' := by
  obtain ⟨i0, hi, hz0, hz1, hz2⟩ := info_parts Try.infoObj
  go_enter Try.func3, Try.ntmps3
  go_wp2_with fail
  refine (known13_any w).mono ?_
  rintro e w0 ⟨rfl, X0⟩
  go_wp2_with fail
  refine (at_new (Ats.start X0)).mono ?_
  rintro e w1 ⟨hp, rfl, A0⟩
  go_wp2_with fail
  refine (at_snew A0).mono ?_
  rintro e w2 ⟨sp, rfl, A1⟩
  clear A0
  go_wp2_with fail
  go_loopw [5, 6] (fun v c wr => ∃ j : Nat, j ≤ 10 ∧ c = .int .i64 j ∧ MostInv w hp sp j v wr) (fun _ c _ => 10 - (intOf c).toNat)
  case atStart => exact ⟨0, by omega, rfl, [], [], [], Num.nil, rfl, fun q hq => by simp at hq, .inl ⟨rfl, rfl, rfl, rfl⟩, A1⟩
  case round =>
    obtain ⟨j, hj, rfl, hinv⟩ := hrel
    have HI := Hid.mk' hinv
    clear hinv A1
    by_cases hlt : j < 10
    · obtain ⟨l, M, R, NN, hl, hM, hR, A2⟩ := HI.out
      clear HI
      have Q0 := Hid.mk' NN
      have Q1 := Hid.mk' hl
      have Q2 := Hid.mk' hM
      have Q3 := Hid.mk' hR
      have hll : l.length < 10 := by omega
      have E : eqO ⟨11, false, (j : Int) + 1, 0, 0, ⟨#[]⟩⟩ ⟨11, false, (j : Int) + 1, 0, 0, ⟨#[]⟩⟩ = true := eqO_self _
      have hlt' : (j : Int) < 10 := by omega
      clear NN hl hM hR
      go_wp2_with fail
      refine (at_save A2 m0 hll (by omega) (by omega)).mono ?_
      rintro e w3 ⟨rfl, g1, A3⟩
      have A4 := A3.order p1
      clear A2 A3
      go_wp2_with (at_builtin; refine wpList_append_own_at _ rfl (.tmp 38) (.tmp 40) 27 rfl w.heap.size 29 i0 O.nil.val 6 56 Try.underObjs hi hz0 hz1 hz2 rfl (by decide) u5 j ((savedL j).flatMap O.cells) rfl (Ats.owns (A4.pure (((Chg.refl NoB w3).alloc _).alloc _)) Q3.out) _ 1 1 (O.cells (svO ((j : Int) + 1))) rfl rfl (fun j' u hj' => cells_new1 _ _ _ _ j' u hj') (cells_one _) ?_ ?_ ?_ ?_; (unfold maxLen; omega); omega; (simp; have := A4.chg.size; omega); intro v5 w5 hown5 hgr5 _ hob5; have HG := Hid.mk' (Ats.grown (A4.pure (((Chg.refl NoB w3).alloc _).alloc _)) Q3.out hown5 hgr5 hob5 (by decide)); clear hown5 hgr5 hob5 A4)
      obtain ⟨R', hR', A5⟩ := HG.out
      have e1 : (j : Int) + 1 = ((j + 1 : Nat) : Int) := by omega
      rw [e1] at A5
      go_roundw
      case rel =>
        refine ⟨j + 1, by omega, by go_num, l ++ [(((j + 1 : Nat) : Int), g1)], (g1, []) :: M, R', Q0.out.push _ (by have := Q1.out; omega) g1, by have := Q1.out; simp; omega, fun q hq => ?_, ?_, A5⟩
        · rcases List.mem_append.1 hq with hq | hq
          · exact List.mem_cons_of_mem _ (Q2.out q hq)
          · obtain rfl := List.mem_singleton.1 hq; exact m0
        · rw [savedL_succ]; exact hR'
      case measure => simp [intOf]; omega
    · obtain ⟨l, M, R, NN, hl, hM, hR, A2⟩ := HI.out
      clear HI
      obtain rfl : j = 10 := by omega
      obtain ⟨x, hx⟩ : ∃ x : Nat, a0 % 10 = (x : Int) := ⟨(a0 % 10).toNat, by omega⟩
      have hx10 : x < 10 := by omega
      rcases hR with ⟨-, h0, -⟩ | ⟨g, cap, cur, rfl, rfl, hc1, -, -, hc4, -⟩
      · omega
      have hb := A2.box (g, .cells cur 29) m1
      have RL : ∀ i, i < (savedL 10).length * 6 → cur[i]? = ((savedL 10).flatMap O.cells)[i]? := fun i hi => by
        rw [savedL_length] at hi
        rw [← hc4, List.getElem?_take_of_lt hi, Array.getElem?_toList]
      obtain ⟨y0, y1, y2, y3, y4, y5⟩ := row_item RL (savedL_at 10 x hx10)
      have q1 : l[x]? = some l[x] := List.getElem?_eq_getElem (by omega)
      have FA : FindS l (svO ((x : Int) + 1)) (x : Int) := find_num NN x (by omega) _ rfl false _ rfl
      have hMx := hM l[x] (List.getElem_mem (by omega))
      have hlt : ¬ ((10 : Nat) : Int) < 10 := by omega
      have hx10' : (x : Int) < 10 := by omega
      clear RL hc4 hM
      go_wp2_with fail
      refine (at_saveFull A2 hl).mono ?_
      rintro e w3 ⟨rfl, A3⟩
      have R3 := cells_of (A3.box _ m1)
      have v3 := blk_lt (A3.box _ m1)
      simp only at v3
      clear A2 hb
      go_wp2_with fail
      refine (at_back (A3.pure ((Chg.refl NoB w3).alloc _)) (by omega) (svO ((x : Int) + 1)) x l[x] FA q1 hMx).mono ?_
      rintro e w4 ⟨rfl, A4⟩
      have hl2 : (l.take x).length = x := by simp; omega
      clear R3 A3 FA
      go_wp2_with fail
      refine (at_save A4 m0 (by omega) (by omega) (by omega)).mono ?_
      rintro e w5 ⟨rfl, g5, A5⟩
      have A6 := (A5.order p1).alloc (.cells #[.int .i64 11, .bool false, .int .i64 11, .int .i64 0, .int .i64 0, .string ⟨#[]⟩] 29)
      have hl3 : ((l.take x ++ [(((10 : Nat) : Int) + 1, g5)]).length : Int) = (x : Int) + 1 := by simp; omega
      clear A4 A5
      go_wp2_with fail
      refine (at_slen A6 m1).mono ?_
      rintro e w6 ⟨rfl, rfl⟩
      rw [hl3]
      go_wp2_with fail
      go_ret
      exact ⟨by simp, A6.chg⟩
end Go.Proofs.Ytenlpkkeljhdeaa
