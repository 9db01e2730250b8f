/- Uan, Uao, Umi, Uwp, Uww, Uwz -/
import Derived.Test.YtpgkjgceldleaaaGreatZTabld
import Derived.Test.YtpgkjgceldleaaaGreatZSeqj
import Derived.Test.YtpgkjgceldleaaaGreatZTable
import Derived.Test.YtpgkjgceldleaaaGreatZShell
import Derived.Test.YtpgkjgceldleaaaGreatZHplaya
import Derived.Test.YtpgkjgceldleaaaGreatZDictd
/- Walk: the method angles of table: a dictionary of what lies above a mark. -/
namespace Go.Proofs.YtpgkjgceldleaaaGreat
open Go.RowKit

/-- Keys and values as operands. -/
def kvL (kv : List (Int × Int)) : List O := kv.flatMap fun p => [iO p.1, iO p.2]
theorem kvL_length (kv : List (Int × Int)) : (kvL kv).length = 2 * kv.length := by
  induction kv with
  | nil => rfl
  | cons p kv ih => simp only [kvL, List.flatMap_cons, List.length_append, List.length_cons, List.length_nil] at ih ⊢; omega
theorem kvL_at : ∀ (kv : List (Int × Int)) (i : Nat) (p : Int × Int), kv[i]? = some p → (kvL kv)[2 * i]? = some (iO p.1) ∧ (kvL kv)[2 * i + 1]? = some (iO p.2)
  | [], i, p, h => by simp at h
  | q :: kv, 0, p, h => by
    simp only [List.getElem?_cons_zero, Option.some.injEq] at h
    subst h
    exact ⟨rfl, rfl⟩
  | q :: kv, i + 1, p, h => by
    have := kvL_at kv i p (by simpa using h)
    rw [show 2 * (i + 1) = 2 * i + 1 + 1 by omega]
    simpa [kvL, List.flatMap_cons] using this
theorem kvL_kind (kv : List (Int × Int)) : ∀ o ∈ kvL kv, o.kind = 3 := fun o ho => by
  obtain ⟨p, -, h⟩ := List.mem_flatMap.1 ho
  simp only [List.mem_cons, List.not_mem_nil, or_false] at h
  rcases h with rfl | rfl <;> rfl
/-- The pairs that these make, one behind the other. -/
def psK (kv : List (Int × Int)) : List (O × O) := kv.foldl (fun ps p => setK ps (numO p.1) (numO p.2)) []
theorem psK_snoc (kv : List (Int × Int)) (p : Int × Int) : psK (kv ++ [p]) = setK (psK kv) (numO p.1) (numO p.2) := by simp [psK]
theorem setK_le (ps : List (O × O)) (k v : O) : (setK ps k v).length ≤ ps.length + 1 := by
  induction ps with
  | nil => simp [setK]
  | cons p ps ih => unfold setK; split <;> simp <;> omega
theorem psK_le (kv : List (Int × Int)) : (psK kv).length ≤ kv.length := by
  rw [← List.reverse_reverse kv]
  induction kv.reverse with
  | nil => simp [psK]
  | cons p l ih =>
    rw [List.reverse_cons, psK_snoc]
    have := setK_le (psK l.reverse) (numO p.1) (numO p.2)
    simp at ih ⊢
    omega
theorem psK_take (kv : List (Int × Int)) (i : Nat) (p : Int × Int) (h : kv[i]? = some p) : psK (kv.take (i + 1)) = setK (psK (kv.take i)) (numO p.1) (numO p.2) := by
  rw [List.take_add_one, h]
  exact psK_snoc _ _
abbrev markO : O := ⟨6, false, 0, 0, 0, ⟨#[]⟩⟩
/-- The two lowest dictionaries, and a third of some room. -/
noncomputable def wQ (ps : List (O × O)) (room : Nat) : List DQ := sysQ ++ [(ps, room, false)]
theorem wQ_at (ps : List (O × O)) (room : Nat) (h : ps.length ≤ room) (hr : room ≤ 100) : DicAt (hQ (wQ ps room)) 2 (dcell ps room) :=
  (q_at (wQ ps room) (okQ_snoc sysQ_ok ⟨h, by show room ≤ 1000; omega, by show ps.length < 256; omega⟩ (by simp [sysQ])) 2 (ps, room, false) rfl).1
theorem sysQ_used : used (hQ sysQ) = 726 := by
  have h1 : hQ sysQ = [dcellk true (sysK 162) 162] ++ [dcellk false [] 200] := by simp [hQ, sysQ]
  rw [h1, used_cat', used_dc _ _ _ (by rw [sysK_length]; decide), used_dc _ _ _ (by simp)]
theorem wQ_new (room : Nat) (hr : room ≤ 100) : dictH (hQ sysQ) (room : Int) = (hQ (wQ [] room), dcn 2, 0) := by
  have hl : (hQ sysQ).length = 2 := by rw [hQ, List.length_map]; rfl
  have := dict_new (hQ sysQ) room (by omega) (by omega) (by rw [sysQ_used]; omega)
  rw [hl] at this
  unfold wQ
  rw [hQ_snoc]
  exact this
/-- Whatever the work box tells of what it took. -/
def TBw (w0 : World) (cp hp sp wb : Nat) (gv : Value) (KB : List (Nat × Obj)) (W : World) : Prop := ∃ M ds l E lv, TabAt w0 W M (E ++ (wb, wkBox hp cp sp lv gv) :: KB) cp hp sp ds l
section
variable {w0 W : World} {M : List (Nat × List C)} {cp hp sp wb : Nat} {ds l : List O} {KB : List (Nat × Obj)} {lv gv : Value}
theorem TBw.of (S : TabAt w0 W M ((wb, wkBox hp cp sp lv gv) :: KB) cp hp sp ds l) : TBw w0 cp hp sp wb gv KB W := ⟨M, ds, l, [], lv, S⟩
theorem TBw.more {q : Nat × Obj} (S : TabAt w0 W M (q :: (wb, wkBox hp cp sp lv gv) :: KB) cp hp sp ds l) : TBw w0 cp hp sp wb gv KB W := ⟨M, ds, l, [q], lv, S⟩
theorem TBw.more' {q : Nat × Obj} (S : TabAt w0 W M ((wb, wkBox hp cp sp lv gv) :: q :: KB) cp hp sp ds l) : TBw w0 cp hp sp wb gv KB W := ⟨M, ds, l, [q], lv, S.perm (List.Perm.swap _ _ _)⟩
theorem TBw.drew (h : TBw w0 cp hp sp wb gv KB W) : TBw w0 cp hp sp wb gv KB W.drew := by obtain ⟨M, ds, l, E, lv, S⟩ := h; exact ⟨M, ds, l, E, lv, S.drew⟩
theorem TBw.cell2 : ∀ W, TBw w0 cp hp sp wb gv KB W → W.cell? ⟨wb, 2, none⟩ = some (ptr sp) := by
  rintro W ⟨M, ds, l, E, lv, S⟩; exact cells_of (S.box (wb, wkBox hp cp sp lv gv) (List.mem_append_right _ m0)) 2
end
theorem TabAt.stkE {w0 w : World} {M M' : List (Nat × List C)} {K : List (Nat × Obj)} {cp hp sp : Nat} {ds l l' : List O} {f : Nat} {args : Array Value} {r : Value} (S : TabAt w0 w M K cp hp sp ds l)
    (h : ∀ E, StkAt w0 w M (E ++ K) sp l → Calls Tryz.prog f args w fun e w' => e = .returned r ∧ StkAt w0 w' M' (E ++ K) sp l') :
    Calls Tryz.prog f args w fun e w' => e = .returned r ∧ TabAt w0 w' M' K cp hp sp ds l' := by
  obtain ⟨g, cap, cur, h1, h2, h3, h4, S⟩ := S
  exact (h [_, _] S).mono fun e w' ⟨e1, e2⟩ => ⟨e1, g, cap, cur, h1, h2, h3, h4, e2⟩
theorem TabAt.dropH {w0 w : World} {M : List (Nat × List C)} {K : List (Nat × Obj)} {cp hp sp : Nat} {ds l : List O} {x : Nat × List C} (S : TabAt w0 w (x :: M) K cp hp sp ds l) : TabAt w0 w M K cp hp sp ds l := S.over fun _ A => A.over fun _ A2 => A2.drop
theorem tab_items {w0 w : World} {M : List (Nat × List C)} {K : List (Nat × Obj)} {cp hp sp : Nat} {ds l : List O} (S : TabAt w0 w M K cp hp sp ds l) (hl : 0 < l.length) (n : Nat) (hn : l.length = n) :
    Calls Tryz.prog 16 #[ptr sp] w fun e w' => ∃ g cap cur, e = .returned (.slice (some ⟨g, 0, none⟩) n cap) ∧ n ≤ cap ∧ TabAt w0 w' M ((g, .cells cur 38) :: K) cp hp sp ds l ∧ ∀ i, i < n * 6 → cur[i]? = (l.flatMap O.cells)[i]? := by
  obtain ⟨g0, cap0, cur0, h1, h2, h3, h4, S⟩ := S
  refine (stk_items S hl n hn).mono ?_
  rintro e w' ⟨g, cap, cur, e1, e2, S', e3⟩
  exact ⟨g, cap, cur, e1, e2, ⟨g0, cap0, cur0, h1, h2, h3, h4, S'.perm (List.perm_middle (l₁ := [_, _])).symm⟩, e3⟩
theorem cut_from20 (g N cap i : Nat) (hi : i ≤ N) :
    ∃ off, (∀ W, (Instr.slice 48 (.slice (some ⟨g, 0, none⟩) N cap) (some (.int .i64 i)) none none).run Tryz.prog W = .ok (.slice (some ⟨g, off, none⟩) (N - i) (cap - i)) W) ∧ (cap ≠ i → off = i * 6) := by
  refine ⟨if cap = i then 0 else i * 6, fun W => ?_, fun h => if_neg h⟩
  rw [run_slice_l (w := W) 48 (some ⟨g, 0, none⟩) N cap (by rw [Tryz.elemObjs]; exact Tryz.underObjs) .i64 i (by omega) (by omega), Tryz.elemObjs, sizeOf_obj]
  simp only [Result.andThen_ok, sliced, Option.map_some, Int.toNat_natCast]
  split
  · rfl
  · simp [Addr.add]
    exact fun h => h.symm
theorem cut_0 (g N cap : Nat) (h : 0 < cap) : ∀ W, (Instr.slice 48 (.slice (some ⟨g, 0, none⟩) N cap) (some (.int .i64 0)) none none).run Tryz.prog W = .ok (.slice (some ⟨g, 0, none⟩) N cap) W := by
  obtain ⟨off, h1, h2⟩ := cut_from20 g N cap 0 (Nat.zero_le _)
  have := h2 (by omega)
  subst this
  exact h1
/-- What lies above the mark, as a slice. -/
def AL (cur : Array Value) (xs : List O) (g n : Nat) (s : Value) : Prop := ∃ off cc, s = .slice (some ⟨g, off, none⟩) n cc ∧ n ≤ cc ∧ ∀ m o, xs[m]? = some o → ∀ j, j < 6 → cur[off + m * 6 + j]? = o.cells[j]?
/-- Behind angles's first store: what lies above the mark, in a row. -/
def AG (w0 : World) (cp hp sp wb : Nat) (KB : List (Nat × Obj)) (ds l : List O) (M : List (Nat × List C)) (n : Nat) (W : World) : Prop :=
  ∃ g cap cur, n ≤ cap ∧ (∀ i, i < n * 6 → cur[i]? = (l.flatMap O.cells)[i]?) ∧ TabAt w0 W M ((wb, wkBox hp cp sp (.slice (some ⟨g, 0, none⟩) n cap) (.slice none 0 0)) :: (g, .cells cur 38) :: KB) cp hp sp ds l
set_option maxRecDepth 100000 in
set_option maxHeartbeats 8000000 in
theorem m_angles {w0 w : World} {K : List (Nat × Obj)} {cp hp sp wb : Nat} {lv : Value} {ds : List O} (kv : List (Int × Int)) (hkv : kv.length ≤ 40) (hb : ∀ p ∈ kv, (-2147483647 ≤ p.1 ∧ p.1 ≤ 2147483647) ∧ -2147483647 ≤ p.2 ∧ p.2 ≤ 2147483647)
    (S : TabAt w0 w [(hp, hQ sysQ)] ((wb, wkBox hp cp sp lv (.slice none 0 0)) :: K) cp hp sp ds (markO :: kvL kv)) :
    Calls Tryz.prog 96 #[ptr wb] w (Gave w0 [(hp, hQ (wQ (psK kv) kv.length))] K cp hp sp ds (markO :: kvL kv) wb (2 * kv.length + 1) [dcn 2] 0) := by
  obtain ⟨n, hn⟩ : ∃ n, (kvL kv).length = n := ⟨_, rfl⟩
  have hnn : n = 2 * kv.length := by rw [← hn, kvL_length]
  obtain ⟨q, hq⟩ : ∃ q, kv.length = q := ⟨_, rfl⟩
  rw [hq] at hnn hkv ⊢
  have hni : (n : Int) ≤ 80 := by omega
  have HQ := hid' (And.intro hn (And.intro hnn (And.intro hq hkv)))
  have HB := hid' hb
  have HX := hid' (fun o ho => kvL_kind kv o ho)
  have HAT := hid' (fun (i : Nat) (h : i < q) => (show ∃ p, kv[i]? = some p from ⟨kv[i]'(by omega), List.getElem?_eq_getElem _⟩))
  have HKA := hid' (fun i p h => kvL_at kv i p h)
  clear hnn hkv hb hq
  have HTM := hid' (S.stk (M' := [(hp, hQ sysQ)]) (l' := markO :: kvL kv) (r := .tuple #[.int .i64 n, .int .i64 0]) (fun K' S' => stk_tomark (l := []) S' rfl (fun o ho => by rw [kvL_kind kv o ho]; decide) n hn))
  (try clear Rw); (try clear yw); (try clear Zw)
  have Rw := cells_of (S.box _ m0)
  have yw := blk_lt (S.box _ m0)
  (try simp only at Rw yw)
  go_enter Tryz.func96, Tryz.ntmps96
  go_wp2_with fail
  refine HTM.out.mono ?_
  rintro r w2 ⟨rfl, S2⟩
  clear HTM S Rw yw hn
  obtain ⟨k, hk⟩ : ∃ k : Int, k = (n : Int) + 1 := ⟨_, rfl⟩
  have hkn : k - n = 1 := by omega
  have hkm : k - ((n : Int) + 1) = 0 := by omega
  have hko : k - 1 - (n : Int) = 0 := by omega
  have w1 : IntKind.i64.wrap 1 = 1 := by decide
  have w00 : IntKind.i64.wrap 0 = 0 := by decide
  have HL := hid' (fun w' K' (S' : TabAt w0 w' [(hp, hQ sysQ)] K' cp hp sp ds (markO :: kvL kv)) => S'.stk (M' := [(hp, hQ sysQ)]) (l' := markO :: kvL kv) (r := .int .i64 k) (fun K2 S3 => by
    have := stk_len S3
    rw [show (((markO :: kvL kv).length : Nat) : Int) = k by simp [HQ.out.1, hk]] at this
    exact this.mono fun _ _ h => ⟨h.1, h.2 ▸ S3⟩))
  go_upto_region 4 with (fail)
  have HI := hid' (fun w' K' (S' : TabAt w0 w' [(hp, hQ sysQ)] K' cp hp sp ds (markO :: kvL kv)) => tab_items S' (by simp) (n + 1) (by simp [HQ.out.1]))
  have RW := TBw.cell2 (w0 := w0) (cp := cp) (hp := hp) (sp := sp) (wb := wb) (gv := .slice none 0 0) (KB := K)
  have lw := blk_lt (S2.box _ m0)
  have zw := free_of (S2.box _ m0)
  simp only at lw zw
  have hS1 := TBw.of S2
  have HS := hid' S2
  have v1 := IntWalk.i64_in (n : Int) (by omega)
  have v2 := IntWalk.i64_in ((n : Int) + 1) (by omega)
  have a2 : (0 : Int) ≤ (n : Int) + 1 := by omega
  clear S2 hk
  go_cut [] (fun wx => AG w0 cp hp sp wb K ds (markO :: kvL kv) [(hp, hQ sysQ)] (n + 1) wx)
  case first =>
    go_region_held3 (fun W' => TBw w0 cp hp sp wb (.slice none 0 0) K W') (first | (with_reducible assumption) | (with_reducible exact TBw.drew (by with_reducible assumption)))
      (first
        | (go_at_call 16; refine (HI.out _ _ (by first | (with_reducible exact HS.out) | (with_reducible exact HS.out.drew))).mono ?_; rintro r w3 ⟨g, cap, cur, rfl, hcap, S3, hcur⟩; have hY := TBw.more S3; have hci : (n : Int) + 1 ≤ cap := (by omega); have hsl := cut_0 g (n + 1) cap (by omega))
        | (go_at_call 14; refine (HL.out _ _ S3).mono ?_; rintro r w4 ⟨rfl, S4⟩; have hZ := TBw.more S4; have yw := blk_lt (S4.box _ m1); have Rw := cells_of (S4.box _ m1); have Zw := free_of (S4.box _ m1); (simp only at yw Rw Zw); have t1 := TBw.more' ((S4.perm (List.Perm.swap _ _ _)).put 3 (.slice (some ⟨g, 0, none⟩) (n + 1) cap))))
    all_goals
      go_wp2_with fail
      go_meet
      exact ⟨g, cap, cur, hcap, hcur, (S4.perm (List.Perm.swap _ _ _)).put 3 _⟩
  case rest =>
    obtain ⟨g, cap, cur, hcap, hcur, S5⟩ := hcut
    clear HL HI RW lw zw hS1 HS hkn hkm hko
    have hc : n = 0 ∨ ∀ m o, (kvL kv)[m]? = some o → ∀ j, j < 6 → cur[6 + m * 6 + j]? = o.cells[j]? := .inr fun m o h j hj => by
      have hmn : m < n := by rw [← HQ.out.1]; exact (List.getElem?_eq_some_iff.1 h).1
      rw [show 6 + m * 6 + j = (m + 1) * 6 + j by omega, hcur _ (by omega)]
      exact flat_at (markO :: kvL kv) (m + 1) j o (by simpa using h) hj
    have HC := hid' hc
    have HCP := hid' hcap
    clear hc hcur hcap
    obtain ⟨K3, hK3⟩ : ∃ K', K' = (wb, wkBox hp cp sp (.slice (some ⟨g, 0, none⟩) (n + 1) cap) (.slice none 0 0)) :: (g, Obj.cells cur 38) :: K := ⟨_, rfl⟩
    have nb : (wb, wkBox hp cp sp (.slice (some ⟨g, 0, none⟩) (n + 1) cap) (.slice none 0 0)) ∈ K3 := by rw [hK3]; exact m0
    have ng : (g, Obj.cells cur 38) ∈ K3 := by rw [hK3]; exact m1
    rw [← hK3] at S5
    have HK3 := hid' hK3
    clear hK3
    have tm : (n : Int).tmod 2 = 0 := by have := HQ.out.2.1; rw [Int.tmod_eq_emod_of_nonneg (by omega)]; omega
    have td : (n : Int).tdiv 2 = q := by have := HQ.out.2.1; rw [Int.tdiv_eq_ediv_of_nonneg (by omega)]; omega
    have h0n : (0 : Int) ≤ n := by omega
    go_upto_region 5 with (fail)
    go_cut [5] (fun s5 wx => AL cur (kvL kv) g n s5 ∧ TabAt w0 wx [(hp, hQ sysQ)] K3 cp hp sp ds (markO :: kvL kv))
    case first =>
      (try clear Rw); (try clear yw); (try clear Zw)
      have Rw := cells_of (S5.box _ nb)
      have yw := blk_lt (S5.box _ nb)
      (try simp only at Rw yw)
      by_cases h1 : cap = 1
      · have HN0 := hid' (show n = 0 by have := HCP.out; omega)
        go_wp2_with fail
        go_meet
        refine ⟨⟨0, _, rfl, by have := HN0.out; omega, fun m o h => ?_⟩, S5⟩
        have hmn : m < n := by rw [← HQ.out.1]; exact (List.getElem?_eq_some_iff.1 h).1
        have := HN0.out
        omega
      · go_wp2_with fail
        go_meet
        refine ⟨⟨6, _, rfl, by have := HCP.out; omega, ?_⟩, S5⟩
        rcases HC.out with h0 | h
        · intro m o h
          have hmn : m < n := by rw [← HQ.out.1]; exact (List.getElem?_eq_some_iff.1 h).1
          omega
        · exact h
    case rest =>
    obtain ⟨⟨off, cc, rfl, hcp, hc2⟩, S7⟩ := hcut
    have hcp2 : (n : Int) ≤ cc := by omega
    have HC3 := hid' hc2
    clear HC
    clear hc2 S5
    go_wp2_with fail
    go_loopw [6] (fun iv wr => ∃ m : Nat, m ≤ n ∧ m % 2 = 0 ∧ iv = .int .i64 m ∧ TabAt w0 wr [(hp, hQ sysQ)] K3 cp hp sp ds (markO :: kvL kv)) (fun iv _ => n - (intOf iv).toNat)
    case atStart => exact ⟨0, Nat.zero_le _, rfl, rfl, S7⟩
    case round =>
    obtain ⟨m, hm, hm2, rfl, S6⟩ := hrel
    clear S7
    by_cases hlt : m < n
    · have hlt' : (m : Int) < n := by omega
      have h0m : (0 : Int) ≤ m := by omega
      obtain ⟨p, hp⟩ := HAT.out (m / 2) (by have := HQ.out.2.1; omega)
      have ha := (HKA.out _ _ hp).1
      rw [show 2 * (m / 2) = m by omega] at ha
      have q0 := HC3.out m _ ha 0 (by decide)
      simp only [O.cells, List.getElem?_cons_zero, Nat.add_zero] at q0
      have v5 := IntWalk.i64_in ((m : Int) + 2) (by omega)
      clear ha hp
      (try clear Rg); (try clear yg); (try clear Zg)
      have Rg := cells_of (S6.box _ ng)
      have yg := blk_lt (S6.box _ ng)
      (try simp only at Rg yg)
      go_wp2_with fail
      go_roundw
      case rel => exact ⟨m + 2, by have := HQ.out.2.1; omega, by omega, by go_num, S6⟩
      case measure => simp [intOf]; omega
    obtain rfl : m = n := by omega
    have HHD := hid' (S6.stkE (M' := [(hp, hQ sysQ)]) (l' := markO :: kvL kv) (r := .int .i64 0) (fun E A => hand_held (hp := hp) (L := hQ sysQ) (ops := kvL kv) A m0 m g cc cur off HQ.out.1 (by omega) hcp (List.mem_append_right _ ng) HC3.out (fun o ho => by rw [HX.out o ho]; decide) (fun o ho h => absurd h (by rw [HX.out o ho]; decide +kernel))))
    (try clear Rw); (try clear yw); (try clear Zw)
    have Rw := cells_of (S6.box _ nb)
    have yw := blk_lt (S6.box _ nb)
    (try simp only at Rw yw)
    clear S6
    go_wp2_with fail
    refine HHD.out.mono ?_
    rintro r w3 ⟨rfl, S8⟩
    clear HHD Rw yw
    (try clear Rw); (try clear yw); (try clear Zw)
    have Rw := cells_of (S8.box _ nb)
    have yw := blk_lt (S8.box _ nb)
    (try simp only at Rw yw)
    have HCO := hid' (S8.ask (M' := (w3.heap.size, hQ sysQ) :: [(hp, hQ sysQ)]) (r := ptr w3.heap.size) (fun K' A => at_copy A m0))
    clear S8
    go_wp2_with fail
    refine HCO.out.mono ?_
    rintro r w4 ⟨rfl, S9⟩
    replace S9 := S9.dropH
    clear HCO Rw yw
    generalize w3.heap.size = was at *
    (try clear Rw); (try clear yw); (try clear Zw)
    have Rw := cells_of (S9.box _ nb)
    have yw := blk_lt (S9.box _ nb)
    (try simp only at Rw yw)
    have HNE := hid' (S9.ask (M' := [(hp, hQ (wQ [] q))]) (r := .tuple #[(dcn 2).val, .int .i64 0]) (fun K' A => at_dnew A q (wQ_new q (by have := HQ.out.2.2.2; omega))))
    have hqq := HQ.out.2.2.2
    have v7 : wrap64 (q : Int) = q := IntWalk.wrap64_in (q : Int) (by omega)
    clear hqq
    clear S9
    go_wp2_with fail
    refine HNE.out.mono ?_
    rintro r w5 ⟨rfl, S10⟩
    clear HNE Rw yw v7
    have S11 := S10.alloc (Obj.cells #[.int .i64 10, .bool false, .int .i64 2, .int .i64 0, .int .i64 0, .string ⟨#[]⟩] 38)
    generalize hgd : w5.heap.size = gd at *
    go_upto_region 18 with (fail)
    generalize hW : w5.alloc _ = w6 at *
    clear hW hgd S10
    obtain ⟨K4, hK4⟩ : ∃ K', K' = (gd, Obj.cells #[.int .i64 10, .bool false, .int .i64 2, .int .i64 0, .int .i64 0, .string ⟨#[]⟩] 38) :: K3 := ⟨_, rfl⟩
    have nd : (gd, Obj.cells #[.int .i64 10, .bool false, .int .i64 2, .int .i64 0, .int .i64 0, .string ⟨#[]⟩] 38) ∈ K4 := by rw [hK4]; exact m0
    have nb : (wb, wkBox hp cp sp (.slice (some ⟨g, 0, none⟩) (m + 1) cap) (.slice none 0 0)) ∈ K4 := by rw [hK4]; exact List.mem_cons_of_mem _ nb
    have ng : (g, Obj.cells cur 38) ∈ K4 := by rw [hK4]; exact List.mem_cons_of_mem _ ng
    rw [← hK4] at S11
    have HK4 := hid' hK4
    clear hK4
    go_wp2_with fail
    go_loopw [9, 4] (fun iv ev wr => ev = .int .i64 0 ∧ ∃ a j : Nat, a = 2 * j ∧ j ≤ q ∧ iv = .int .i64 a ∧ TabAt w0 wr [(hp, hQ (wQ (psK (kv.take j)) q))] K4 cp hp sp ds (markO :: kvL kv)) (fun iv _ _ => m - (intOf iv).toNat)
    case atStart => exact ⟨rfl, 0, 0, rfl, Nat.zero_le _, rfl, S11⟩
    case round =>
    obtain ⟨rfl, a, j, ha, hj, rfl, S12⟩ := hrel
    clear S11
    by_cases hlt : j < q
    · have hlt' : (a : Int) < m := by have := HQ.out.2.1; omega
      have h0a : (0 : Int) ≤ a := by omega
      have hlt2 : (a : Int) + 1 < m := by have := HQ.out.2.1; omega
      have v5 := IntWalk.i64_in ((a : Int) + 2) (by omega)
      have v6 := IntWalk.i64_in ((a : Int) + 1) (by omega)
      have h0a1 : (0 : Int) ≤ (a : Int) + 1 := by omega
      obtain ⟨p, hp'⟩ := HAT.out j hlt
      have hka := HKA.out _ _ hp'
      rw [← ha] at hka
      have hbp := HB.out p (List.mem_of_getElem? hp')
      have HTK := hid' (psK_take kv j p hp')
      have hqa := HC3.out a _ hka.1
      have hqb := HC3.out (a + 1) _ hka.2
      have q0 := hqa 0 (by decide)
      have q1 := hqa 1 (by decide)
      have q2 := hqa 2 (by decide)
      have q3 := hqa 3 (by decide)
      have q4 := hqa 4 (by decide)
      have q5 := hqa 5 (by decide)
      have p0 := hqb 0 (by decide)
      have p1 := hqb 1 (by decide)
      have p2 := hqb 2 (by decide)
      have p3 := hqb 3 (by decide)
      have p4 := hqb 4 (by decide)
      have p5 := hqb 5 (by decide)
      simp only [O.cells, List.getElem?_cons_zero, List.getElem?_cons_succ, Nat.add_zero] at q0 q1 q2 q3 q4 q5 p0 p1 p2 p3 p4 p5
      have hps : (psK (kv.take j)).length ≤ j := Nat.le_trans (psK_le _) (by simp; omega)
      have HST := hid' (fun W (A : TabAt w0 W [(hp, hQ (wQ (psK (kv.take j)) q))] K4 cp hp sp ds (markO :: kvL kv)) => A.ask (M' := [(hp, hQ (wQ (psK (kv.take (j + 1))) q))]) (r := .int .i64 0) (fun K' A => by
        have := at_dsetK A 2 (psK (kv.take j)) q (wQ_at _ q (by omega) (by have := HQ.out.2.2.2; omega)) (by omega) (by have := HQ.out.2.2.2; omega) (by have := HQ.out.2.2.2; omega) (numO p.1) (numO p.2) (key_num _ _ hbp.1.1 hbp.1.2) (may_num _ _ hbp.2.1 hbp.2.2) (may_num _ _ hbp.1.1 hbp.1.2)
        rw [← HTK.out] at this
        exact this))
      obtain ⟨pk, pv⟩ := p
      simp only at q2 p2
      have HAJ := hid' ha
      clear ha
      clear hka hqa hqb hp' hbp HTK hps
      have RW := TB.cells (w0 := w0) (cp := cp) (hp := hp) (sp := sp) nb
      have RG := TB.cells (w0 := w0) (cp := cp) (hp := hp) (sp := sp) ng
      have RD := TB.cells (w0 := w0) (cp := cp) (hp := hp) (sp := sp) nd
      have lb := blk_lt (S12.box _ nb)
      have lg := blk_lt (S12.box _ ng)
      have ld := blk_lt (S12.box _ nd)
      simp only at lb lg ld
      have hS1 := TB.of S12
      have HS := hid' S12
      clear S12
      have v8 := IntWalk.wrap64_in ((a : Int) + 1) (by clear HQ; omega)
      go_upto_region 21 with (fail)
      go_region_held3 (fun W' => TB w0 cp hp sp K4 W') (first | (with_reducible assumption) | (with_reducible exact TB.drew (by with_reducible assumption)))
        (first | (go_at_call 56; refine (HST.out _ (by first | (with_reducible exact HS.out) | (with_reducible exact HS.out.drew))).mono ?_; rintro r w7 ⟨rfl, S13⟩; have hY := TB.of S13))
      clear v8
      go_wp2_with fail
      go_roundw
      case rel => exact ⟨rfl, a + 2, j + 1, by have := HAJ.out; omega, by omega, by go_num, S13⟩
      case measure => simp [intOf]; omega
    obtain rfl : j = q := by omega
    have hnl : ¬ (a : Int) < m := by have := HQ.out.2.1; omega
    rw [List.take_of_length_le (Nat.le_of_eq HQ.out.2.2.1)] at S12
    clear ha hlt hj
    have HN := hid' (show m + 1 = 2 * j + 1 by have := HQ.out.2.1; omega)
    rw [HK4.out, HK3.out] at S12
    (try clear Rd); (try clear yd); (try clear Zd)
    have Rd := cells_of (S12.box _ m0)
    have yd := blk_lt (S12.box _ m0)
    (try simp only at Rd yd)
    have S13 := (S12.alloc (Obj.cells #[.int .i64 10, .bool false, .int .i64 2, .int .i64 0, .int .i64 0, .string ⟨#[]⟩] 38)).perm (List.perm_middle (l₁ := [_, _]))
    clear S12
    go_wp2_with fail
    refine (give_any S13 _ 1 1).mono ?_
    rintro r w8 ⟨rfl, S14⟩
    go_wp2_with fail
    go_ret
    rw [← HN.out]
    exact ⟨rfl, _, _, _, [_, _, _], S14, .inr ⟨_, _, 1, rfl, m0, rfl, rfl⟩⟩
end Go.Proofs.YtpgkjgceldleaaaGreat
/- Walk: angles where a number of operands that is odd lies above the mark; table.Do at angles. -/
namespace Go.Proofs.YtpgkjgceldleaaaGreat
open Go.RowKit

set_option maxRecDepth 100000 in
set_option maxHeartbeats 8000000 in
theorem m_anglesO {w0 w : World} {K : List (Nat × Obj)} {cp hp sp wb : Nat} {lv : Value} {ds : List O} {L : List C} (xs : List O) (n : Nat) (hn : xs.length = n) (q : Nat) (hq : n = 2 * q + 1) (hq2 : q ≤ 40) (hx : ∀ o ∈ xs, o.kind = 3)
    (S : TabAt w0 w [(hp, L)] ((wb, wkBox hp cp sp lv (.slice none 0 0)) :: K) cp hp sp ds (markO :: xs)) :
    Calls Tryz.prog 96 #[ptr wb] w (Gave w0 [(hp, L)] K cp hp sp ds (markO :: xs) wb (n + 1) [] 2) := by
  have hni : (n : Int) ≤ 81 := by omega
  have HQ := hid' (And.intro hn (And.intro hq hq2))
  have HX := hid' hx
  clear hx hq hq2
  have HTM := hid' (S.stk (M' := [(hp, L)]) (l' := markO :: xs) (r := .tuple #[.int .i64 n, .int .i64 0]) (fun K' S' => stk_tomark (l := []) S' rfl (fun o ho => by rw [HX.out o ho]; decide) n hn))
  (try clear Rw); (try clear yw); (try clear Zw)
  have Rw := cells_of (S.box _ m0)
  have yw := blk_lt (S.box _ m0)
  (try simp only at Rw yw)
  go_enter Tryz.func96, Tryz.ntmps96
  go_wp2_with fail
  refine HTM.out.mono ?_
  rintro r w2 ⟨rfl, S2⟩
  clear HTM S Rw yw hn
  obtain ⟨k, hk⟩ : ∃ k : Int, k = (n : Int) + 1 := ⟨_, rfl⟩
  have hkn : k - n = 1 := by omega
  have hkm : k - ((n : Int) + 1) = 0 := by omega
  have hko : k - 1 - (n : Int) = 0 := by omega
  have w1 : IntKind.i64.wrap 1 = 1 := by decide
  have w00 : IntKind.i64.wrap 0 = 0 := by decide
  have HL := hid' (fun w' K' (S' : TabAt w0 w' [(hp, L)] K' cp hp sp ds (markO :: xs)) => S'.stk (M' := [(hp, L)]) (l' := markO :: xs) (r := .int .i64 k) (fun K2 S3 => by
    have := stk_len S3
    rw [show (((markO :: xs).length : Nat) : Int) = k by simp [HQ.out.1, hk]] at this
    exact this.mono fun _ _ h => ⟨h.1, h.2 ▸ S3⟩))
  go_upto_region 4 with (fail)
  have HI := hid' (fun w' K' (S' : TabAt w0 w' [(hp, L)] K' cp hp sp ds (markO :: xs)) => tab_items S' (by simp) (n + 1) (by simp [HQ.out.1]))
  have RW := TBw.cell2 (w0 := w0) (cp := cp) (hp := hp) (sp := sp) (wb := wb) (gv := .slice none 0 0) (KB := K)
  have lw := blk_lt (S2.box _ m0)
  have zw := free_of (S2.box _ m0)
  simp only at lw zw
  have hS1 := TBw.of S2
  have HS := hid' S2
  have v1 := IntWalk.i64_in (n : Int) (by omega)
  have v2 := IntWalk.i64_in ((n : Int) + 1) (by omega)
  have a2 : (0 : Int) ≤ (n : Int) + 1 := by omega
  clear S2 hk
  go_cut [] (fun wx => AG w0 cp hp sp wb K ds (markO :: xs) [(hp, L)] (n + 1) wx)
  case first =>
    go_region_held3 (fun W' => TBw w0 cp hp sp wb (.slice none 0 0) K W') (first | (with_reducible assumption) | (with_reducible exact TBw.drew (by with_reducible assumption)))
      (first
        | (go_at_call 16; refine (HI.out _ _ (by first | (with_reducible exact HS.out) | (with_reducible exact HS.out.drew))).mono ?_; rintro r w3 ⟨g, cap, cur, rfl, hcap, S3, hcur⟩; have hY := TBw.more S3; have hci : (n : Int) + 1 ≤ cap := (by omega); have hsl := cut_0 g (n + 1) cap (by omega))
        | (go_at_call 14; refine (HL.out _ _ S3).mono ?_; rintro r w4 ⟨rfl, S4⟩; have hZ := TBw.more S4; have yw := blk_lt (S4.box _ m1); have Rw := cells_of (S4.box _ m1); have Zw := free_of (S4.box _ m1); (simp only at yw Rw Zw); have t1 := TBw.more' ((S4.perm (List.Perm.swap _ _ _)).put 3 (.slice (some ⟨g, 0, none⟩) (n + 1) cap))))
    all_goals
      go_wp2_with fail
      go_meet
      exact ⟨g, cap, cur, hcap, hcur, (S4.perm (List.Perm.swap _ _ _)).put 3 _⟩
  case rest =>
    obtain ⟨g, cap, cur, hcap, hcur, S5⟩ := hcut
    clear HL HI RW lw zw hS1 HS hkn hkm hko
    have HCP := hid' hcap
    clear hcur hcap
    obtain ⟨K3, hK3⟩ : ∃ K', K' = (wb, wkBox hp cp sp (.slice (some ⟨g, 0, none⟩) (n + 1) cap) (.slice none 0 0)) :: (g, Obj.cells cur 38) :: K := ⟨_, rfl⟩
    have nb : (wb, wkBox hp cp sp (.slice (some ⟨g, 0, none⟩) (n + 1) cap) (.slice none 0 0)) ∈ K3 := by rw [hK3]; exact m0
    have ng : (g, Obj.cells cur 38) ∈ K3 := by rw [hK3]; exact m1
    rw [← hK3] at S5
    have HK3 := hid' hK3
    clear hK3
    have tm : (n : Int).tmod 2 = 1 := by have := HQ.out.2.1; rw [Int.tmod_eq_emod_of_nonneg (by omega)]; omega
    have h0n : (0 : Int) ≤ n := by omega
    go_upto_region 5 with (fail)
    go_cut [5] (fun s5 wx => (∃ off cc, s5 = .slice (some ⟨g, off, none⟩) n cc) ∧ TabAt w0 wx [(hp, L)] K3 cp hp sp ds (markO :: xs))
    case first =>
      (try clear Rw); (try clear yw); (try clear Zw)
      have Rw := cells_of (S5.box _ nb)
      have yw := blk_lt (S5.box _ nb)
      (try simp only at Rw yw)
      by_cases h1 : cap = 1
      · go_wp2_with fail
        go_meet
        exact ⟨⟨0, _, rfl⟩, S5⟩
      · go_wp2_with fail
        go_meet
        exact ⟨⟨6, _, rfl⟩, S5⟩
    case rest =>
    obtain ⟨⟨off, cc, rfl⟩, S7⟩ := hcut
    clear S5
    go_wp2_with fail
    go_ret
    rw [HK3.out] at S7
    exact ⟨rfl, _, _, _, [_], S7, .inl ⟨rfl, rfl⟩⟩
/-- table.Do at angles: an even number of operands above the mark. -/
theorem td_angE {w0 w : World} {K : List (Nat × Obj)} {cp hp sp : Nat} {ds : List O} (kv : List (Int × Int)) (hkv : kv.length ≤ 40) (hb : ∀ p ∈ kv, (-2147483647 ≤ p.1 ∧ p.1 ≤ 2147483647) ∧ -2147483647 ≤ p.2 ∧ p.2 ≤ 2147483647)
    (S : TabAt w0 w [(hp, hQ sysQ)] K cp hp sp ds (markO :: kvL kv)) :
    Calls Tryz.prog 44 #[ptr hp, ptr cp, ptr sp, .int .i64 71] w fun r w' => r = .returned (.int .i64 0) ∧ TabAt w0 w' [(hp, hQ (wQ (psK kv) kv.length))] K cp hp sp ds [dcn 2] :=
  tdo_71 (l := []) (ops := markO :: kvL kv) (gv := [dcn 2]) (e := 0) S m0 (2 * kv.length + 1) (by rw [List.length_cons, kvL_length]) (by omega) (fun w' K' wb g S' => m_angles kv hkv hb S')
    (.inr ⟨rfl, rfl, by simp, fun o h => by rw [List.mem_singleton.1 h]; exact dcn_may 2 (by decide)⟩)
theorem td_angO {w0 w : World} {K : List (Nat × Obj)} {cp hp sp : Nat} {ds : List O} {L : List C} (xs : List O) (q : Nat) (hq : xs.length = 2 * q + 1) (hq2 : q ≤ 40) (hx : ∀ o ∈ xs, o.kind = 3)
    (S : TabAt w0 w [(hp, L)] K cp hp sp ds (markO :: xs)) :
    Calls Tryz.prog 44 #[ptr hp, ptr cp, ptr sp, .int .i64 71] w fun r w' => r = .returned (.int .i64 2) ∧ TabAt w0 w' [(hp, L)] K cp hp sp ds (markO :: xs) :=
  tdo_71 (l := []) (ops := markO :: xs) (gv := []) (e := 2) S m0 (2 * q + 1 + 1) (by rw [List.length_cons, hq]) (by omega) (fun w' K' wb g S' => m_anglesO xs (2 * q + 1) hq q rfl hq2 hx S')
    (.inl ⟨by decide, rfl⟩)
end Go.Proofs.YtpgkjgceldleaaaGreat
/- A Go map of numbers: plain, and its runs. -/
namespace Go.Proofs.YtpgkjgceldleaaaGreat
open Go.RowKit

/-- A map of numbers as a list. -/
def setI : List (Int × Int) → Int → Int → List (Int × Int)
  | [], k, v => [(k, v)]
  | p :: ps, k, v => if p.1 = k then (k, v) :: ps else p :: setI ps k v
def getI : List (Int × Int) → Int → Option Int
  | [], _ => none
  | p :: ps, k => if p.1 = k then some p.2 else getI ps k
def MapI (es : Array MapEntry) (ps : List (Int × Int)) : Prop := es.toList.map (fun e => (e.key, e.val)) = ps.map fun p => (Value.int .i64 p.1, Value.int .i64 p.2)
theorem find_mi (k : Int) : ∀ (l : List MapEntry) (ps : List (Int × Int)) (i : Nat), l.map (fun e => (e.key, e.val)) = ps.map (fun p => (Value.int .i64 p.1, Value.int .i64 p.2)) →
    (getI ps k = none ∧ Instr.findNow (.int .i64) (.int .i64 k) l i = some none ∧ ∀ v, setI ps k v = ps ++ [(k, v)]) ∨
      ∃ j v e, getI ps k = some v ∧ Instr.findNow (.int .i64) (.int .i64 k) l i = some (some (i + j, .int .i64 v)) ∧ l[j]? = some e ∧ e.key = .int .i64 k ∧ ∀ v', setI ps k v' = ps.set j (k, v')
  | [], [], i, _ => .inl ⟨rfl, rfl, fun _ => rfl⟩
  | [], p :: ps, i, h => by simp at h
  | e :: l, [], i, h => by simp at h
  | e :: l, p :: ps, i, h => by
    simp only [List.map_cons, List.cons.injEq, Prod.mk.injEq] at h
    obtain ⟨⟨h1, h2⟩, h3⟩ := h
    by_cases hk : p.1 = k
    · refine .inr ⟨0, p.2, e, by simp [getI, hk], ?_, rfl, by rw [h1, hk], fun v' => by simp [setI, hk]⟩
      simp [Instr.findNow, Instr.sameNow, h1, h2, hk]
    · have hk' : (k == p.1) = false := by simp; exact fun h => hk h.symm
      have hf : Instr.findNow (.int .i64) (.int .i64 k) (e :: l) i = Instr.findNow (.int .i64) (.int .i64 k) l (i + 1) := by
        simp [Instr.findNow, Instr.sameNow, h1, hk']
      rcases find_mi k l ps (i + 1) h3 with ⟨a, b, c⟩ | ⟨j, v, e', a, b, c, d, f⟩
      · exact .inl ⟨by simp [getI, hk, a], by rw [hf, b], fun v => by simp [setI, hk, c v]⟩
      · exact .inr ⟨j + 1, v, e', by simp [getI, hk, a], by rw [hf, b]; simp; omega, by simpa using c, d, fun v' => by simp [setI, hk, f v']⟩
theorem getI_set (ps : List (Int × Int)) (k v q : Int) : getI (setI ps k v) q = if k = q then some v else getI ps q := by
  induction ps with
  | nil => simp [setI, getI]
  | cons p ps ih =>
    unfold setI
    split
    · rename_i h
      subst h
      simp only [getI]
      split <;> rfl
    · rename_i h
      simp only [getI, ih]
      split
      · rename_i h2
        rw [if_neg (fun h3 => h (h2.trans h3.symm))]
      · rfl
theorem mi_check (w : World) (k : Int) (e : Bool) : (Instr.checkKey e 10000 3 (.int .i64 k)).run Tryz.prog w = .ok () w := MapKept.run_checkKey (k := .int .i64 k) Tryz.underlying3 (by simp [MapKept.IsKey]) e 9999
theorem run_mmI (w : World) : (Instr.makeMap 47 none).run Tryz.prog w = .ok (.map (some w.heap.size)) (w.alloc (.map #[] 0)) := rfl
theorem run_updI {w : World} {r : Nat} {es : Array MapEntry} {c : Nat} {ps : List (Int × Int)} (hb : w.heap[r]? = some (.map es c)) (h : MapI es ps) (k v : Int) :
    ∃ es' c', (Instr.mapUpdate 47 (.map (some r)) (.int .i64 k) (.int .i64 v)).run Tryz.prog w = .ok () { w with heap := w.heap.setIfInBounds r (.map es' c') } ∧ MapI es' (setI ps k v) := by
  rcases find_mi k es.toList ps 0 h with ⟨-, h1, h2⟩ | ⟨j, u, e, -, h1, h2, h3, h4⟩
  · refine ⟨es.push { key := .int .i64 k, val := .int .i64 v, born := c }, c + 1, ?_, ?_⟩
    · simp [Instr.mapUpdate, run_underlying Tryz.underlying47, MapKept.run_getObj_map hb, mi_check, MapKept.run_findKey Tryz.underlying3 h1, MapKept.run_setObj_map _ hb, Result.andThen]
    · rw [h2]
      simp only [MapI, Array.toList_push, List.map_append, List.map_cons, List.map_nil] at h ⊢
      rw [h]
  · have hj : es[j]? = some e := by simpa using h2
    have hks := MapKept.run_keyThatStays (P := Tryz.prog) (w := w) (d := .int .i64) (k := .int .i64 k) (by simp [MapKept.IsKey])
    refine ⟨es.modify j fun e => { e with key := .int .i64 k, val := .int .i64 v }, c, ?_, ?_⟩
    · rw [Nat.zero_add] at h1
      simp [Instr.mapUpdate, run_underlying Tryz.underlying47, MapKept.run_getObj_map hb, mi_check, MapKept.run_findKey Tryz.underlying3 h1, hj, h3, hks, MapKept.run_setObj_map _ hb, Result.andThen]
    · rw [h4]
      unfold MapI at h ⊢
      rw [List.map_set, ← h]
      apply List.ext_getElem?
      intro m
      simp only [Array.toList_modify, List.getElem?_map, List.getElem?_modify, List.getElem?_set]
      by_cases hm : j = m
      · subst hm
        have hjl : j < es.toList.length := (List.getElem?_eq_some_iff.1 h2).1
        have hj2 : es.toList[j]? = some e := h2
        rw [hj2]
        simp at hjl ⊢
        exact hjl
      · simp only [if_neg hm]
        cases es.toList[m]? <;> rfl
set_option maxRecDepth 100000 in
theorem run_lookI {w : World} {r : Nat} {es : Array MapEntry} {c : Nat} {ps : List (Int × Int)} (hb : w.heap[r]? = some (.map es c)) (h : MapI es ps) (k : Int) :
    (Instr.lookup 47 (.map (some r)) (.int .i64 k) true).run Tryz.prog w = .ok (.tuple #[.int .i64 ((getI ps k).getD 0), .bool (getI ps k).isSome]) w := by
  have hz : (zeroValue 3).run Tryz.prog w = .ok (.int .i64 0) w := rfl
  rcases find_mi k es.toList ps 0 h with ⟨h0, h1, h2⟩ | ⟨j, u, e, h0, h1, h2, h3, h4⟩
  · simp [Instr.lookup, run_underlying Tryz.underlying47, MapKept.run_getObj_map hb, mi_check, MapKept.run_findKey Tryz.underlying3 h1, Result.andThen, h0, hz]
  · simp [Instr.lookup, run_underlying Tryz.underlying47, MapKept.run_getObj_map hb, mi_check, MapKept.run_findKey Tryz.underlying3 h1, Result.andThen, h0]
theorem mi_size {es : Array MapEntry} {ps : List (Int × Int)} (h : MapI es ps) : es.size = ps.length := by
  have := congrArg List.length h
  simpa using this
theorem run_lenI {w : World} {r : Nat} {es : Array MapEntry} {c : Nat} {ps : List (Int × Int)} (hb : w.heap[r]? = some (.map es c)) (h : MapI es ps) :
    (Builtin.len_ #[47] 3 #[.map (some r)]).run Tryz.prog w = .ok (.int .i64 ps.length) w := by
  rw [← mi_size h]
  simp [Builtin.len_, run_underlying Tryz.underlying47, MapKept.run_getObj_map hb, Result.andThen, goInt]
/-! ### The dictionary of numbers -/
theorem same_nums (a b : Int) : sameO (numO a) (numO b) = decide (a = b) := by
  have hs : ∀ v : Int, (sizeO (numO v)).2 = true → (sizeO (numO v)).1 = v * 65536 := fun v h => by
    unfold sizeO at h ⊢
    split at h
    · simp at h
    · rename_i h2
      rw [if_neg h2, if_pos rfl]
  unfold sameO
  split
  · rename_i h
    rw [hs a h.1, hs b h.2, decide_eq_decide]
    omega
  · by_cases h : a = b
    · subst h
      simp [eqO]
    · rw [decide_eq_false h]
      exact eqO_ne fun e => h (by simp only [unO, O.mk.injEq] at e; exact e.2.2.1)
def psI (kv : List (Int × Int)) : List (Int × Int) := kv.foldl (fun ps p => setI ps p.1 p.2) []
def numP (p : Int × Int) : O × O := (numO p.1, numO p.2)
theorem setK_nums (ps : List (Int × Int)) (k v : Int) : setK (ps.map numP) (numO k) (numO v) = (setI ps k v).map numP := by
  induction ps with
  | nil => rfl
  | cons p ps ih =>
    show (if sameO (numO p.1) (numO k) = true then _ else _) = _
    rw [same_nums]
    unfold setI
    by_cases h : p.1 = k
    · simp [h, numP]
    · simp only [h, decide_false, Bool.false_eq_true, if_false, List.map_cons]
      rw [← ih]
theorem getK_nums (ps : List (Int × Int)) (k : Int) : getK (ps.map numP) (numO k) = (getI ps k).map numO := by
  induction ps with
  | nil => rfl
  | cons p ps ih =>
    show (if sameO (numO p.1) (numO k) = true then _ else _) = _
    rw [same_nums]
    unfold getI
    by_cases h : p.1 = k
    · simp [h, numP]
    · simp only [h, decide_false, Bool.false_eq_true, if_false]
      exact ih
theorem psK_nums (kv : List (Int × Int)) : psK kv = (psI kv).map numP := by
  rw [← List.reverse_reverse kv]
  induction kv.reverse with
  | nil => rfl
  | cons p l ih =>
    rw [List.reverse_cons, psK_snoc, ih, setK_nums]
    simp [psI]
theorem psI_snoc (kv : List (Int × Int)) (p : Int × Int) : psI (kv ++ [p]) = setI (psI kv) p.1 p.2 := by simp [psI]
theorem psI_len (kv : List (Int × Int)) : (psI kv).length = (psK kv).length := by rw [psK_nums, List.length_map]
end Go.Proofs.YtpgkjgceldleaaaGreat
/- TableWhole: plain, and its steps. -/
namespace Go.Proofs.YtpgkjgceldleaaaGreat
open Go.RowKit

theorem op_angles20 (w : World) : Calls Tryz.prog 8 #[.string ⟨#[62, 62]⟩] w fun r w2 => r = .returned (.tuple #[.int .i64 71, .bool true]) ∧ Chg NoB w w2 := number_hit 70 3 [62, 62] (by decide +kernel) w
theorem op_max20 (w : World) : Calls Tryz.prog 8 #[.string ⟨#[109, 97, 120, 108, 101, 110, 103, 116, 104]⟩] w fun r w2 => r = .returned (.tuple #[.int .i64 70, .bool true]) ∧ Chg NoB w w2 := number_hit 69 3 [109, 97, 120, 108, 101, 110, 103, 116, 104] (by decide +kernel) w
/-- Keys and values of the law. -/
def kvZ (zk zv : List Int) : List (Int × Int) := (List.range zk.length).map fun i => (zk.getD i 0 % 9, zv.getD i 0)
theorem kvZ_length (zk zv : List Int) : (kvZ zk zv).length = zk.length := by simp [kvZ]
theorem kvZ_at (zk zv : List Int) (i : Nat) (hi : i < zk.length) : (kvZ zk zv)[i]? = some (zk.getD i 0 % 9, zv.getD i 0) := by simp [kvZ, hi]
theorem kvL_snoc (kv : List (Int × Int)) (p : Int × Int) : kvL (kv ++ [p]) = kvL kv ++ [iO p.1] ++ [iO p.2] := by simp [kvL]
theorem kvL_take (kv : List (Int × Int)) (i : Nat) (p : Int × Int) (h : kv[i]? = some p) : kvL (kv.take (i + 1)) = kvL (kv.take i) ++ [iO p.1] ++ [iO p.2] := by
  rw [List.take_add_one, h]
  exact kvL_snoc _ _
theorem psI_take (kv : List (Int × Int)) (i : Nat) (p : Int × Int) (h : kv[i]? = some p) : psI (kv.take (i + 1)) = setI (psI (kv.take i)) p.1 p.2 := by
  rw [List.take_add_one, h]
  exact psI_snoc _ _
theorem psI_le (kv : List (Int × Int)) : (psI kv).length ≤ kv.length := by rw [psI_len]; exact psK_le kv
def wV : Option Int → O
  | some v => iO v
  | none => O.nil
def wE : Option Int → Int
  | some _ => 0
  | none => 9
/-- A box of whatever kind is replaced. -/
theorem Ats.putM {w0 w : World} {M : List (Nat × List C)} {K : List (Nat × Obj)} {b : Nat} {o : Obj} (A : Ats w0 w M ((b, o) :: K)) (o' : Obj) : Ats w0 { w with heap := w.heap.setIfInBounds b o' } M ((b, o') :: K) := by
  obtain ⟨h, h1, H, X0, D, F, k, n⟩ := A
  obtain ⟨kb, kn, kg⟩ := k _ (List.mem_cons_self ..)
  have hs := MapKept.heap_set (o' := o') kb
  have X : Chg (· = b) w { w with heap := w.heap.setIfInBounds b o' } := ⟨rfl, rfl, rfl, by simp, fun i _ hi => hs.2 i hi⟩
  refine ⟨h, h1, fun x hx => (H x hx).chg X fun c hc e => kn (List.mem_flatMap.2 ⟨x, hx, e ▸ hc⟩), X0.trans' X (fun i hi e => by simp only at e kg; omega), D, F, fun q hq => ?_, n⟩
  rcases List.mem_cons.1 hq with rfl | hq
  · exact ⟨hs.1, kn, kg⟩
  · refine ⟨X.blk (k q (List.mem_cons_of_mem _ hq)).1 fun e => ?_, (k q (List.mem_cons_of_mem _ hq)).2⟩
    rw [List.map_cons, List.nodup_cons] at n
    exact n.1 (List.mem_map.2 ⟨q, hq, e⟩)
section
variable {w0 : World} {hp cp sp gp tp : Nat} {dv : Value} {KB : List (Nat × Obj)}
theorem TQ.putM {x : TX} {W : World} {b : Nat} {o : Obj} (S : TQ w0 hp cp sp ((b, o) :: KB) x W) (o' : Obj) : TQ w0 hp cp sp ((b, o') :: KB) x { W with heap := W.heap.setIfInBounds b o' } :=
  TabAt.over S fun _ A => StkAt.over (A.perm List.perm_middle) fun _ A2 => (((A2.perm List.perm_middle).putM o').perm List.perm_middle.symm).perm (List.perm_middle.symm.append_left _)
theorem TQ.push {x y : TX} (o : O) (hm : mayO o = true) (hl : x.2.2.length < 200) (hy : y = (x.1, x.2.1, x.2.2 ++ [o])) (W : World) (S : TQ w0 hp cp sp KB x W) :
    Calls Tryz.prog 15 #[ptr sp, o.val] W fun r w' => r = .returned (.int .i64 0) ∧ TQ w0 hp cp sp KB y w' := by
  subst hy
  exact TabAt.stk S (fun _ S2 => stk_push S2 o hm hl)
theorem TQ.items {x : TX} (n : Nat) (hn : x.2.2.length = n) (h0 : 0 < n) (W : World) (S : TQ w0 hp cp sp KB x W) :
    Calls Tryz.prog 16 #[ptr sp] W fun r w' => ∃ g cap cur, r = .returned (.slice (some ⟨g, 0, none⟩) n cap) ∧ n ≤ cap ∧ TQ w0 hp cp sp ((g, .cells cur 38) :: KB) x w' ∧ ∀ m o, x.2.2[m]? = some o → ∀ j, j < 6 → cur[m * 6 + j]? = o.cells[j]? := by
  refine (tab_items S (by omega) n hn).mono ?_
  rintro r w' ⟨g, cap, cur, e1, e2, e3, e4⟩
  refine ⟨g, cap, cur, e1, e2, e3, fun m o h j hj => ?_⟩
  have hm : m < n := by rw [← hn]; exact (List.getElem?_eq_some_iff.1 h).1
  rw [e4 _ (by omega)]
  exact flat_at x.2.2 m j o h hj
theorem TQ.wget (kv : List (Int × Int)) (q : Nat) (hq : kv.length ≤ q) (hq2 : q ≤ 40) (k : Int) (hk : 0 ≤ k ∧ k ≤ 9) {ds l : List O} (W : World) (S : TQ w0 hp cp sp KB (hQ (wQ (psK kv) q), ds, l) W) :
    Calls Tryz.prog 18 #[ptr hp, (dcn 2).val, (iO k).val] W fun r w' => r = .returned (.tuple #[(wV (getI (psI kv) k)).val, .int .i64 (wE (getI (psI kv) k))]) ∧ TQ w0 hp cp sp KB (hQ (wQ (psK kv) q), ds, l) w' :=
  TabAt.ask S fun K' A => at_dgetK A m0 2 (psK kv) q (wQ_at _ q (Nat.le_trans (psK_le kv) hq) (by omega)) (Nat.le_trans (psK_le kv) hq) (by omega) (by have := psK_le kv; omega) (iO k) (key_num _ _ (by omega) (by omega)) _ _ (by
    rw [psK_nums, getK_nums]
    cases getI (psI kv) k with
    | none => exact .inr ⟨rfl, rfl, rfl⟩
    | some v => exact .inl ⟨rfl, rfl⟩)
theorem TQ.wlen (kv : List (Int × Int)) (q : Nat) (hq : kv.length ≤ q) (hq2 : q ≤ 40) {ds l : List O} (W : World) (S : TQ w0 hp cp sp KB (hQ (wQ (psK kv) q), ds, l) W) :
    Calls Tryz.prog 19 #[ptr hp, (dcn 2).val] W fun r w' => r = .returned (.tuple #[.int .i64 (psI kv).length, .int .i64 0]) ∧ TQ w0 hp cp sp KB (hQ (wQ (psK kv) q), ds, l) w' := by
  rw [psI_len]
  exact TabAt.ask S fun K' A => at_dlen A m0 2 (psK kv) q (wQ_at _ q (Nat.le_trans (psK_le kv) hq) (by omega)) (Nat.le_trans (psK_le kv) hq) (by omega)
theorem TQ.wmax (kv : List (Int × Int)) (q : Nat) (hq : kv.length ≤ q) (hq2 : q ≤ 40) {ds : List O} (cs : Array Value) (hc : cs.toList = [dcn 2].flatMap O.cells) (W : World) (S : TQ w0 hp cp sp KB (hQ (wQ (psK kv) q), ds, []) W) :
    Calls Tryz.prog 10 #[xVal hp cp sp gp dv tp, .string ⟨#[109, 97, 120, 108, 101, 110, 103, 116, 104]⟩, .slice (some ⟨W.heap.size, 0, none⟩) 1 1] (W.alloc (.cells cs 38)) fun r w' => r = .returned (.int .i64 0) ∧ TQ w0 hp cp sp KB (hQ (wQ (psK kv) q), ds, [iO q]) w' :=
  TQ.doing (y := (hQ (wQ (psK kv) q), ds, [iO q])) [dcn 2] 1 rfl (by simp) (fun o h => by rw [List.mem_singleton.1 h]; exact dcn_may 2 (by decide)) _ 70 0 true op_max20
    (fun w' K' S' => td_max (l := []) (M := []) (dcn 2) (q : Int) S' (isK_dict _) (held_one (fun _ => (wQ_at (psK kv) q (Nat.le_trans (psK_le kv) hq) (by omega)).may)) (by omega) (by omega)
      (fun w2 K2 S2 => TabAt.ask S2 (fun K' A => at_droom A m0 2 (psK kv) q (wQ_at _ q (Nat.le_trans (psK_le kv) hq) (by omega)) (Nat.le_trans (psK_le kv) hq) (by omega)))) cs hc W S
theorem TQ.wangE (kv : List (Int × Int)) (hkv : kv.length ≤ 40) (hb : ∀ p ∈ kv, (-2147483647 ≤ p.1 ∧ p.1 ≤ 2147483647) ∧ -2147483647 ≤ p.2 ∧ p.2 ≤ 2147483647) {ds : List O} (W : World) (S : TQ w0 hp cp sp KB (hQ sysQ, ds, markO :: kvL kv) W) :
    Calls Tryz.prog 10 #[xVal hp cp sp gp dv tp, .string ⟨#[62, 62]⟩, .slice none 0 0] W fun r w' => r = .returned (.int .i64 0) ∧ TQ w0 hp cp sp KB (hQ (wQ (psK kv) kv.length), ds, [dcn 2]) w' :=
  TQ.doing0 (y := (hQ (wQ (psK kv) kv.length), ds, [dcn 2])) _ 71 0 true (by simp [kvL_length]; omega) op_angles20 (fun w' K' S' => td_angE kv hkv hb S') W S
theorem TQ.wangO (kv : List (Int × Int)) (hkv : kv.length ≤ 40) {L : List C} {ds : List O} (W : World) (S : TQ w0 hp cp sp KB (L, ds, markO :: kvL kv ++ [iO 1]) W) :
    Calls Tryz.prog 10 #[xVal hp cp sp gp dv tp, .string ⟨#[62, 62]⟩, .slice none 0 0] W fun r w' => r = .returned (.int .i64 2) ∧ TQ w0 hp cp sp KB (L, ds, markO :: kvL kv ++ [iO 1]) w' :=
  TQ.doing0 (y := (L, ds, markO :: kvL kv ++ [iO 1])) _ 71 2 true (by simp [kvL_length]; omega) op_angles20
    (fun w' K' S' => td_angO (kvL kv ++ [iO 1]) kv.length (by simp [kvL_length]) hkv (fun o ho => by
      rcases List.mem_append.1 ho with h | h
      · exact kvL_kind kv o h
      · rw [List.mem_singleton.1 h]) S') W S
end
theorem row_of {W : World} {g n cap : Nat} {cur : Array Value} {xs : List O} {fz : Nat × Nat} (hb : W.heap[g]? = some (.cells cur 38 fz)) (hc : n ≤ cap) (h : ∀ m o, xs[m]? = some o → ∀ j, j < 6 → cur[m * 6 + j]? = o.cells[j]?) : RowOf W (.slice (some ⟨g, 0, none⟩) n cap) n xs :=
  ⟨_, _, rfl, hc, fun _ => ⟨g, cur, _, rfl, hb, h⟩⟩
/-- Behind dict.Get in the law: a box more. -/
def WG (w0 : World) (hp cp sp : Nat) (KB : List (Nat × Obj)) (x : TX) (v : O) (e : Int) (s1 s2 : Value) (W : World) : Prop := ∃ b, s1 = ptr b ∧ s2 = .int .i64 e ∧ TQ w0 hp cp sp ((b, .cells v.cells.toArray 38) :: KB) x W
theorem WG.mk {w0 W : World} {hp cp sp b : Nat} {KB : List (Nat × Obj)} {x : TX} {e kk : Int} {kx : Bool} {kn kp kl : Int} {ks : ByteArray} (S : TQ w0 hp cp sp ((b, Obj.cells #[.int .i64 kk, .bool kx, .int .i64 kn, .int .i64 kp, .int .i64 kl, .string ks] 38) :: KB) x W) : WG w0 hp cp sp KB x ⟨kk, kx, kn, kp, kl, ks⟩ e (ptr b) (.int .i64 e) W := ⟨b, rfl, rfl, S⟩
theorem TQY.anyW {w0 W : World} {hp cp sp : Nat} {E KB : List (Nat × Obj)} {x : TX} (S : TQ w0 hp cp sp (E ++ KB) x W) : TQY w0 hp cp sp KB W := ⟨x, E, S⟩
theorem TQ.allocW {w0 W : World} {hp cp sp : Nat} {E KB : List (Nat × Obj)} {x : TX} (S : TQ w0 hp cp sp (E ++ KB) x W) (o : Obj) : TQ w0 hp cp sp (((W.heap.size, o) :: E) ++ KB) x (W.alloc o) := S.alloc o
end Go.Proofs.YtpgkjgceldleaaaGreat
/- TableWhole: the walk. -/
namespace Go.Proofs.YtpgkjgceldleaaaGreat
open Go.RowKit

set_option maxRecDepth 100000 in
set_option maxHeartbeats 8000000 in
theorem tableWhole_in (va : Value) (zk : List Int) (vb : Value) (zv : List Int) (odd : Bool) (w : World) (wa : IntsAt w .u8 va zk) (wb : IntsAt w .i16 vb zv) (hz : zk.length ≤ 40) :
    Calls Tryz.prog 4 #[va, vb, .bool odd] w fun e w' => e = .returned (.bool true) ∧ Chg NoB w w' := by
  obtain ⟨ad, n, cap, rfl, hzl, hlc, hcm, hwz, hcell⟩ := wa
  obtain ⟨bd, nv, bcap, rfl, hvl, hblc, hbcm, hwv, hbcell⟩ := wb
  obtain ⟨kv, hkv⟩ : ∃ kv, kv = kvZ zk zv := ⟨_, rfl⟩
  have hkl : kv.length = n := by rw [hkv, kvZ_length, hzl]
  have hval : ∀ i, -32768 ≤ zv.getD i 0 ∧ zv.getD i 0 < 32768 := fun i => by
    by_cases hi : i < zv.length
    · have := wf_i16 (hwv _ (List.getElem_mem hi))
      rw [List.getD_eq_getElem?_getD, List.getElem?_eq_getElem hi]
      exact this
    · rw [List.getD_eq_getElem?_getD, List.getElem?_eq_none (by omega)]
      decide
  have hkb : ∀ i, i < n → 0 ≤ zk.getD i 0 ∧ zk.getD i 0 < 256 := fun i hi => by
    have := wf_u8 (hwz _ (List.getElem_mem (show i < zk.length by omega)))
    rw [List.getD_eq_getElem?_getD, List.getElem?_eq_getElem (show i < zk.length by omega)]
    exact this
  have HKV := hid' (fun (i : Nat) (hi : i < n) => (show ∃ k v, kv[i]? = some (k % 9, v) ∧ (0 ≤ k ∧ k < 256) ∧ (-32768 ≤ v ∧ v < 32768) ∧ (∃ b off, ad = some ⟨b, off, none⟩ ∧ b < w.heap.size ∧ w.cell? ⟨b, off + i, none⟩ = some (.int .u8 k)) ∧
      ((¬ i < nv ∧ v = 0) ∨ (i < nv ∧ ∃ b off, bd = some ⟨b, off, none⟩ ∧ b < w.heap.size ∧ w.cell? ⟨b, off + i, none⟩ = some (.int .i16 v))) by
    obtain ⟨b, off, h1, h2, h3⟩ := hcell (by omega)
    refine ⟨zk.getD i 0, zv.getD i 0, by rw [hkv]; exact kvZ_at zk zv i (by omega), hkb i hi, hval i, ⟨b, off, h1, h2, h3 i hi⟩, ?_⟩
    by_cases hv : i < nv
    · obtain ⟨b', off', h1', h2', h3'⟩ := hbcell (by omega)
      exact .inr ⟨hv, b', off', h1', h2', h3' i hv⟩
    · exact .inl ⟨hv, by rw [List.getD_eq_getElem?_getD, List.getElem?_eq_none (by omega)]; rfl⟩))
  have hpb : ∀ p ∈ kv, (-2147483647 ≤ p.1 ∧ p.1 ≤ 2147483647) ∧ -2147483647 ≤ p.2 ∧ p.2 ≤ 2147483647 := fun p hp => by
    obtain ⟨i, hi, rfl⟩ := List.getElem_of_mem hp
    obtain ⟨k, v, h1, h2, h3, -⟩ := HKV.out i (by omega)
    rw [List.getElem?_eq_getElem hi] at h1
    rw [Option.some.inj h1]
    simp only
    omega
  have hn : n ≤ 40 := by omega
  have HKN := hid' (known20_any w)
  have HQ := hid' (And.intro hkl (And.intro hn hpb))
  have i1 : (n : Int) ≤ 40 := by omega
  have hcn : (n : Int) ≤ cap := by omega
  have hcv : (nv : Int) ≤ bcap := by omega
  clear hkv hkl hval hkb hpb hwz hwv hcell hbcell hzl hvl hz hn hcm hbcm
  have hMM := run_mmI
  go_enter Tryz.func4, Tryz.ntmps4
  go_wp2_with fail
  refine HKN.out.mono ?_
  rintro r w1 ⟨rfl, X1⟩
  go_wp2_with fail
  refine (TQ.fresh w1 X1).mono ?_
  rintro r w2 ⟨hp, cp, sp, gp, x, tp, rfl, S1⟩
  clear HKN X1
  have S2 := S1.alloc (xBox hp cp sp gp (.pointer x) tp)
  generalize hg : w2.heap.size = g2 at *
  go_upto_region 6 with (fail)
  generalize hW : w2.alloc _ = w3 at *
  clear hW hg S1
  (try clear Ra); (try clear ya); (try clear Za)
  have Ra := cells_of (S2.box _ m0)
  have ya := blk_lt (S2.box _ m0)
  (try simp only at Ra ya)
  go_wp2_with fail
  refine (TQ.push (y := (hQ sysQ, dsQ 2, [markO])) markO (by decide +kernel) (by decide) rfl _ S2).mono ?_
  rintro r w4 ⟨rfl, S3⟩
  clear Ra ya S2
  have S4 := S3.alloc (.map #[] 0)
  generalize hg : w4.heap.size = mp at *
  go_upto_region 8 with (fail)
  generalize hW : w4.alloc _ = w5 at *
  clear hW hg S3
  go_wp2_with fail
  go_loopw [9] (fun cv wr => ∃ (i : Nat) (es : Array MapEntry) (c : Nat), i ≤ n ∧ cv = .int .i64 i ∧ MapI es (psI (kv.take i)) ∧ TQ w hp cp sp [(mp, .map es c), (g2, xBox hp cp sp gp (.pointer x) tp)] (hQ sysQ, dsQ 2, markO :: kvL (kv.take i)) wr) (fun cv _ => n - (intOf cv).toNat)
  case atStart => exact ⟨0, #[], 0, Nat.zero_le _, rfl, rfl, S4⟩
  case round =>
  obtain ⟨i, es, c, hi, rfl, hmi, S5⟩ := hrel
  clear S4
  by_cases hlt : i < n
  · obtain ⟨k, v, hkv, ⟨k0, k1⟩, ⟨v0, v1⟩, ⟨b, off, rfl, hbl, hbc⟩, hvv⟩ := HKV.out i hlt
    have HKX := hid' (kvL_take kv i _ hkv)
    have HPX := hid' (psI_take kv i _ hkv)
    simp only at HKX HPX
    have dl : (i : Int) < n := by omega
    have di : (0 : Int) ≤ i := by omega
    have hb1 := (S5.chg).old hbc
    have km : k.tmod 9 = k % 9 := Int.tmod_eq_emod_of_nonneg k0
    have k9 : 0 ≤ k % 9 ∧ k % 9 < 9 := by omega
    have ki := IntWalk.i64_in k (by omega)
    have vi := IntWalk.i64_in v (by omega)
    clear hkv hbc
    rcases hvv with ⟨hnl, rfl⟩ | ⟨hvl, b', off', rfl, hbl', hbc2⟩
    · have dv : decide ((i : Int) < nv) = false := by simp; omega
      go_upto_region 15 with (fail)
      obtain ⟨es', c', HU, hmi'⟩ := run_updI (S5.box _ m0) hmi (k % 9) 0
      have S6 := S5.putM (.map es' c')
      go_upto_region 16 with (fail)
      generalize hW : ({ wr with heap := wr.heap.setIfInBounds mp (.map es' c') } : World) = w6 at *
      clear hW HU S5 hmi
      obtain ⟨K2, hK2⟩ : ∃ K', K' = [(mp, Obj.map es' c'), (g2, xBox hp cp sp gp (.pointer x) tp)] := ⟨_, rfl⟩
      have nW : (g2, xBox hp cp sp gp (.pointer x) tp) ∈ K2 := by rw [hK2]; exact m1
      rw [← hK2] at S6
      have HK2 := hid' hK2
      clear hK2
      have HP := hid' (fun W (S : TQ w hp cp sp K2 (hQ sysQ, dsQ 2, markO :: kvL (kv.take i)) W) => TQ.push (y := (hQ sysQ, dsQ 2, markO :: (kvL (kv.take i) ++ [iO (k % 9)]))) (iO (k % 9)) (may_iO _ (by omega) (by omega)) (by simp [kvL_length]; omega) rfl W S)
      have QW := TQY.cells (w0 := w) (hp := hp) (cp := cp) (sp := sp) nW
      have lw := blk_lt (S6.box _ nW)
      simp only at lw
      have hY := TQY.of S6
      have HS := hid' S6
      clear S6
      go_region_held3 (fun W' => TQY w hp cp sp K2 W') (first | (with_reducible assumption) | (with_reducible exact TQY.drew (by with_reducible assumption)))
        (first
          | (go_at_call 12; refine (TQ.num _ _ (by first | (with_reducible exact HS.out) | (with_reducible exact HS.out.drew))).mono ?_; rintro r w11 ⟨rfl, SN⟩; have hYN := TQY.of SN)
          | (go_at_call 15; refine (HP.out _ (by with_reducible assumption)).mono ?_; rintro r w12 ⟨rfl, S7⟩; have hYP := TQY.of S7))
      clear HP QW lw hY HS SN hYN hYP
      have HP := hid' (fun W (S : TQ w hp cp sp K2 (hQ sysQ, dsQ 2, markO :: (kvL (kv.take i) ++ [iO (k % 9)])) W) => TQ.push (y := (hQ sysQ, dsQ 2, markO :: (kvL (kv.take i) ++ [iO (k % 9)] ++ [iO 0]))) (iO 0) (may_iO _ (by omega) (by omega)) (by simp [kvL_length]; omega) rfl W S)
      have QW := TQY.cells (w0 := w) (hp := hp) (cp := cp) (sp := sp) nW
      have lw := blk_lt (S7.box _ nW)
      simp only at lw
      have hY := TQY.of S7
      have HS := hid' S7
      clear S7
      go_upto_region 17 with (fail)
      go_region_held3 (fun W' => TQY w hp cp sp K2 W') (first | (with_reducible assumption) | (with_reducible exact TQY.drew (by with_reducible assumption)))
        (first
          | (go_at_call 12; refine (TQ.num _ _ (by first | (with_reducible exact HS.out) | (with_reducible exact HS.out.drew))).mono ?_; rintro r w11 ⟨rfl, SN⟩; have hYN := TQY.of SN)
          | (go_at_call 15; refine (HP.out _ (by with_reducible assumption)).mono ?_; rintro r w12 ⟨rfl, S8⟩; have hYP := TQY.of S8))
      clear HP QW lw hY HS SN hYN hYP
      rw [HK2.out] at S8
      go_wp2_with fail
      go_roundw
      case rel => exact ⟨i + 1, es', c', by omega, by go_num, by rw [HPX.out]; exact hmi', by rw [HKX.out]; exact S8⟩
      case measure => simp [intOf]; omega
    · have dv : (i : Int) < nv := by omega
      have hb2 := (S5.chg).old hbc2
      go_upto_region 15 with (fail)
      obtain ⟨es', c', HU, hmi'⟩ := run_updI (S5.box _ m0) hmi (k % 9) v
      have S6 := S5.putM (.map es' c')
      go_upto_region 16 with (fail)
      generalize hW : ({ wr with heap := wr.heap.setIfInBounds mp (.map es' c') } : World) = w6 at *
      clear hW HU S5 hmi
      obtain ⟨K2, hK2⟩ : ∃ K', K' = [(mp, Obj.map es' c'), (g2, xBox hp cp sp gp (.pointer x) tp)] := ⟨_, rfl⟩
      have nW : (g2, xBox hp cp sp gp (.pointer x) tp) ∈ K2 := by rw [hK2]; exact m1
      rw [← hK2] at S6
      have HK2 := hid' hK2
      clear hK2
      have HP := hid' (fun W (S : TQ w hp cp sp K2 (hQ sysQ, dsQ 2, markO :: kvL (kv.take i)) W) => TQ.push (y := (hQ sysQ, dsQ 2, markO :: (kvL (kv.take i) ++ [iO (k % 9)]))) (iO (k % 9)) (may_iO _ (by omega) (by omega)) (by simp [kvL_length]; omega) rfl W S)
      have QW := TQY.cells (w0 := w) (hp := hp) (cp := cp) (sp := sp) nW
      have lw := blk_lt (S6.box _ nW)
      simp only at lw
      have hY := TQY.of S6
      have HS := hid' S6
      clear S6
      go_region_held3 (fun W' => TQY w hp cp sp K2 W') (first | (with_reducible assumption) | (with_reducible exact TQY.drew (by with_reducible assumption)))
        (first
          | (go_at_call 12; refine (TQ.num _ _ (by first | (with_reducible exact HS.out) | (with_reducible exact HS.out.drew))).mono ?_; rintro r w11 ⟨rfl, SN⟩; have hYN := TQY.of SN)
          | (go_at_call 15; refine (HP.out _ (by with_reducible assumption)).mono ?_; rintro r w12 ⟨rfl, S7⟩; have hYP := TQY.of S7))
      clear HP QW lw hY HS SN hYN hYP
      have HP := hid' (fun W (S : TQ w hp cp sp K2 (hQ sysQ, dsQ 2, markO :: (kvL (kv.take i) ++ [iO (k % 9)])) W) => TQ.push (y := (hQ sysQ, dsQ 2, markO :: (kvL (kv.take i) ++ [iO (k % 9)] ++ [iO v]))) (iO v) (may_iO _ (by omega) (by omega)) (by simp [kvL_length]; omega) rfl W S)
      have QW := TQY.cells (w0 := w) (hp := hp) (cp := cp) (sp := sp) nW
      have lw := blk_lt (S7.box _ nW)
      simp only at lw
      have hY := TQY.of S7
      have HS := hid' S7
      clear S7
      go_upto_region 17 with (fail)
      go_region_held3 (fun W' => TQY w hp cp sp K2 W') (first | (with_reducible assumption) | (with_reducible exact TQY.drew (by with_reducible assumption)))
        (first
          | (go_at_call 12; refine (TQ.num _ _ (by first | (with_reducible exact HS.out) | (with_reducible exact HS.out.drew))).mono ?_; rintro r w11 ⟨rfl, SN⟩; have hYN := TQY.of SN)
          | (go_at_call 15; refine (HP.out _ (by with_reducible assumption)).mono ?_; rintro r w12 ⟨rfl, S8⟩; have hYP := TQY.of S8))
      clear HP QW lw hY HS SN hYN hYP
      rw [HK2.out] at S8
      go_wp2_with fail
      go_roundw
      case rel => exact ⟨i + 1, es', c', by omega, by go_num, by rw [HPX.out]; exact hmi', by rw [HKX.out]; exact S8⟩
      case measure => simp [intOf]; omega
  · obtain rfl : i = n := by omega
    rw [List.take_of_length_le (Nat.le_of_eq HQ.out.1)] at S5 hmi
    have hlen : (kvL kv).length = 2 * i := by rw [kvL_length, HQ.out.1]
    have HLN := hid' hlen
    clear hlt hlen
    cases odd
    · skip
      (try clear Ra); (try clear ya); (try clear Za)
      have Ra := cells_of (S5.box _ m1)
      have ya := blk_lt (S5.box _ m1)
      (try simp only at Ra ya)
      go_wp2_with fail
      refine (TQ.items (2 * i + 1) (by simp [HLN.out]) (by omega) _ S5).mono ?_
      rintro r w6 ⟨g, cap2, cur, rfl, hcap2, S6, hcur⟩
      clear Ra ya S5 hcur
      have S7 := S6.keep (List.sublist_cons_self _ _)
      clear S6
      (try clear Ra); (try clear ya); (try clear Za)
      have Ra := cells_of (S7.box _ m1)
      have ya := blk_lt (S7.box _ m1)
      (try simp only at Ra ya)
      go_wp2_with fail
      refine (TQ.wangE kv (by have := HQ.out; omega) HQ.out.2.2 _ S7).mono ?_
      rintro r w7 ⟨rfl, S8⟩
      clear Ra ya S7
      rw [HQ.out.1] at S8
      (try clear Ra); (try clear ya); (try clear Za)
      have Ra := cells_of (S8.box _ m1)
      have ya := blk_lt (S8.box _ m1)
      (try simp only at Ra ya)
      go_wp2_with fail
      refine (TQ.top (y := (hQ (wQ (psK kv) i), dsQ 2, [])) (dcn 2) rfl _ S8).mono ?_
      rintro r w8 ⟨rfl, S9⟩
      clear Ra ya S8
      have S10 := S9.alloc (.cells #[.int .i64 10, .bool false, .int .i64 2, .int .i64 0, .int .i64 0, .string ⟨#[]⟩] 38)
      generalize hg : w8.heap.size = gd at *
      go_upto_region 25 with (fail)
      generalize hW : w8.alloc _ = w9 at *
      clear hW hg S9
      have HLE := hid' (TQ.len (x := (hQ (wQ (psK kv) i), dsQ 2, [])) 0 rfl _ S10)
      (try clear Rd); (try clear yd); (try clear Zd)
      have Rd := cells_of (S10.box _ m0)
      have yd := blk_lt (S10.box _ m0)
      (try clear Ra); (try clear ya); (try clear Za)
      have Ra := cells_of (S10.box _ m2)
      have ya := blk_lt (S10.box _ m2)
      (try simp only at Rd yd Ra ya)
      clear S10
      go_wp2_with fail
      refine HLE.out.mono ?_
      rintro r w10 ⟨rfl, S11⟩
      clear HLE Ra ya Rd yd
      (try clear Rd); (try clear yd); (try clear Zd)
      have Rd := cells_of (S11.box _ m0)
      have yd := blk_lt (S11.box _ m0)
      (try clear Ra); (try clear ya); (try clear Za)
      have Ra := cells_of (S11.box _ m2)
      have ya := blk_lt (S11.box _ m2)
      (try simp only at Rd yd Ra ya)
      go_upto_region 28 with (fail)
      clear Ra ya Rd yd
      obtain ⟨KB, hKB⟩ : ∃ K', K' = [(gd, Obj.cells #[.int .i64 10, .bool false, .int .i64 2, .int .i64 0, .int .i64 0, .string ⟨#[]⟩] 38), (mp, Obj.map es c), (g2, xBox hp cp sp gp (.pointer x) tp)] := ⟨_, rfl⟩
      have nd : (gd, Obj.cells #[.int .i64 10, .bool false, .int .i64 2, .int .i64 0, .int .i64 0, .string ⟨#[]⟩] 38) ∈ KB := by rw [hKB]; exact m0
      have nm : (mp, Obj.map es c) ∈ KB := by rw [hKB]; exact m1
      have nW : (g2, xBox hp cp sp gp (.pointer x) tp) ∈ KB := by rw [hKB]; exact m2
      rw [← hKB] at S11
      clear hKB
      go_wp2_with fail
      go_loopw [15] (fun cv wr => ∃ k : Nat, k ≤ 9 ∧ cv = .int .i64 k ∧ TQ w hp cp sp KB (hQ (wQ (psK kv) i), dsQ 2, []) wr) (fun cv _ => 9 - (intOf cv).toNat)
      case atStart => exact ⟨0, by omega, rfl, S11⟩
      case round =>
      obtain ⟨k, hk, rfl, S12⟩ := hrel
      clear S11
      by_cases h9 : k < 9
      · have dk : (k : Int) < 9 := by omega
        have QW := TQY.cells (w0 := w) (hp := hp) (cp := cp) (sp := sp) nW
        have QD := TQY.cells (w0 := w) (hp := hp) (cp := cp) (sp := sp) nd
        have lw := blk_lt (S12.box _ nW)
        have ld := blk_lt (S12.box _ nd)
        simp only at lw ld
        have hY := TQY.of S12
        obtain ⟨x9, hx9⟩ : ∃ x9 : TX, x9 = (hQ (wQ (psK kv) i), dsQ 2, []) := ⟨_, rfl⟩
        have HGE := hid' (fun E W (S : TQ w hp cp sp (E ++ KB) x9 W) => TQ.wget kv i (Nat.le_of_eq HQ.out.1) HQ.out.2.1 (k : Int) (by omega) (ds := dsQ 2) (l := []) W (by rw [← hx9]; exact S))
        rw [← hx9] at HGE S12
        have HX9 := hid' hx9
        clear hx9
        obtain ⟨ov, hov⟩ : ∃ o, o = wV (getI (psI kv) k) := ⟨_, rfl⟩
        obtain ⟨oe, hoe⟩ : ∃ o, o = wE (getI (psI kv) k) := ⟨_, rfl⟩
        rw [← hov, ← hoe] at HGE
        have HOV := hid' hov
        have HOE := hid' hoe
        clear hov hoe
        obtain ⟨kk, kx, kn, kp, kl, ks⟩ := ov
        go_upto_region 30 with (fail)
        go_cut [16, 17] (fun s1 s2 wx => WG w hp cp sp KB x9 ⟨kk, kx, kn, kp, kl, ks⟩ oe s1 s2 wx)
        case first =>
          have E0 : TQ w hp cp sp ([] ++ KB) x9 wr.drew := S12.drew
          have E1 : TQ w hp cp sp ([(wr.heap.size, Obj.cells #[.int .i64 0, .bool false, .int .i64 0, .int .i64 0, .int .i64 0, .string ⟨#[]⟩] 38)] ++ KB) x9 (wr.alloc (Obj.cells #[.int .i64 0, .bool false, .int .i64 0, .int .i64 0, .int .i64 0, .string ⟨#[]⟩] 38)).drew := (S12.alloc _).drew
          have F0 : TQY w hp cp sp KB wr.drew := TQY.anyW E0
          have F1 : TQY w hp cp sp KB (wr.alloc (Obj.cells #[.int .i64 0, .bool false, .int .i64 0, .int .i64 0, .int .i64 0, .string ⟨#[]⟩] 38)).drew := TQY.anyW E1
          have HNU := hid' (fun E W (S : TQ w hp cp sp (E ++ KB) x9 W) v => TQ.num v W S)
          clear S12
          go_region_held3 (fun W' => TQY w hp cp sp KB W') (first | (with_reducible assumption) | (with_reducible exact TQY.alloc (by with_reducible assumption) _) | (with_reducible exact TQY.drew (by with_reducible assumption)) | (with_reducible exact TQY.drew (TQY.alloc (by with_reducible assumption) _)))
            (first
              | (go_at_call 12; refine (HNU.out _ _ (by with_reducible assumption) _).mono ?_; rintro r wa ⟨rfl, SA⟩; have hA0 := TQY.anyW SA; (try have yA := blk_lt (SA.box _ m0)); (try simp only at yA); have E3 := SA.allocW (Obj.cells #[.int .i64 0, .bool false, .int .i64 0, .int .i64 0, .int .i64 0, .string ⟨#[]⟩] 38); clear E0 E1)
              | (go_at_call 18; refine (HGE.out _ _ (by with_reducible assumption)).mono ?_; rintro r wb ⟨rfl, SB⟩; have hB0 := TQY.anyW SB; (try simp only [List.cons_append, List.nil_append] at SB); (try have yz := blk_lt (SB.box _ m0)); (try simp only at yz); (try have Rz := cells_of (SB.box _ m0)); (try simp only at Rz); (try have Zz := free_of (SB.box _ m0)); (try simp only at Zz); (try (with_reducible have t1 := TQY.more (KB := KB) (SB.putO kk kx kn kp kl ks)))))
          all_goals
            go_wp2_with fail
            go_meet
          · have S9 := SB.alloc (Obj.cells #[.int .i64 kk, .bool kx, .int .i64 kn, .int .i64 kp, .int .i64 kl, .string ks] 38)
            with_reducible exact WG.mk S9
          · with_reducible exact WG.mk (SB.putO kk kx kn kp kl ks)
          · with_reducible exact WG.mk (SB.putO kk kx kn kp kl ks)
        case rest =>
        obtain ⟨bv, rfl, rfl, S13⟩ := hcut
        clear S12
        have HLK := run_lookI (S13.box _ (List.mem_cons_of_mem _ nm)) hmi (k : Int)
        cases hg : getI (psI kv) (k : Int) with
        | none =>
          rw [hg] at HLK HOV HOE
          obtain rfl : oe = 9 := HOE.out
          obtain ⟨rfl, rfl, rfl, rfl, rfl, rfl⟩ : kk = 0 ∧ kx = false ∧ kn = 0 ∧ kp = 0 ∧ kl = 0 ∧ ks = ⟨#[]⟩ := by
            have := HOV.out
            simpa [wV, O.nil] using this
          simp only [Option.isSome_none, Option.getD_none] at HLK
          clear hg
          go_upto_region 32 with (fail)
          clear HLK
          go_quiet (fail)
          have S14 := (S13.pure ((Chg.refl NoB _).drewN nq)).keep (List.sublist_cons_self _ _)
          go_wp2_with fail
          go_roundw
          case rel => exact ⟨k + 1, by omega, by go_num, by rw [HX9.out] at S14; exact S14⟩
          case measure => simp [intOf]; omega
        | some v =>
          rw [hg] at HLK HOV HOE
          obtain rfl : oe = 0 := HOE.out
          obtain ⟨rfl, rfl, rfl, rfl, rfl, rfl⟩ : kk = 3 ∧ kx = false ∧ kn = v ∧ kp = 0 ∧ kl = 0 ∧ ks = ⟨#[]⟩ := by
            have := HOV.out
            simpa [wV] using this
          simp only [Option.isSome_some, Option.getD_some] at HLK
          clear hg
          go_upto_region 32 with (fail)
          clear HLK
          have qv : eqO ⟨3, false, kn, 0, 0, ⟨#[]⟩⟩ ⟨3, false, kn, 0, 0, ⟨#[]⟩⟩ = true := eqO_self _
          obtain ⟨K5, hK5⟩ : ∃ K', K' = (bv, Obj.cells (⟨3, false, kn, 0, 0, ⟨#[]⟩⟩ : O).cells.toArray 38) :: KB := ⟨_, rfl⟩
          have nv5 : (bv, Obj.cells #[.int .i64 3, .bool false, .int .i64 kn, .int .i64 0, .int .i64 0, .string ⟨#[]⟩] 38) ∈ K5 := by rw [hK5]; exact m0
          rw [← hK5] at S13
          have HK5 := hid' hK5
          clear hK5 QW QD lw ld hY HGE
          have QV := TQY.cells (w0 := w) (hp := hp) (cp := cp) (sp := sp) nv5
          have lv := blk_lt (S13.box _ nv5)
          simp only at lv
          have hY := TQY.of S13
          have HS := hid' S13
          clear S13
          go_region_held3 (fun W' => TQY w hp cp sp K5 W') (first | (with_reducible assumption) | (with_reducible exact TQY.drew (by with_reducible assumption)))
            ((go_at_call 12; refine (TQ.num _ _ (by first | (with_reducible exact HS.out) | (with_reducible exact HS.out.drew))).mono ?_; rintro r w11 ⟨rfl, SN⟩; have hYN := TQY.of SN))
          clear QV lv hY HS
          rw [HK5.out] at SN
          have S14 := SN.keep (List.sublist_cons_self _ _)
          go_wp2_with fail
          go_roundw
          case rel => exact ⟨k + 1, by omega, by go_num, by rw [HX9.out] at S14; exact S14⟩
          case measure => simp [intOf]; omega
      · obtain rfl : k = 9 := by omega
        (try clear Rw); (try clear yw); (try clear Zw)
        have Rw := cells_of (S12.box _ nW)
        have yw := blk_lt (S12.box _ nW)
        (try clear Rd); (try clear yd); (try clear Zd)
        have Rd := cells_of (S12.box _ nd)
        have yd := blk_lt (S12.box _ nd)
        (try simp only at Rw yw Rd yd)
        go_wp2_with fail
        refine (TQ.wmax kv i (Nat.le_of_eq HQ.out.1) HQ.out.2.1 _ rfl _ S12).mono ?_
        rintro r wa ⟨rfl, S13⟩
        clear Rw yw Rd yd S12
        (try clear Rw); (try clear yw); (try clear Zw)
        have Rw := cells_of (S13.box _ nW)
        have yw := blk_lt (S13.box _ nW)
        (try clear Rd); (try clear yd); (try clear Zd)
        have Rd := cells_of (S13.box _ nd)
        have yd := blk_lt (S13.box _ nd)
        (try simp only at Rw yw Rd yd)
        go_wp2_with fail
        refine (TQ.wlen kv i (Nat.le_of_eq HQ.out.1) HQ.out.2.1 _ S13).mono ?_
        rintro r wb ⟨rfl, S14⟩
        clear Rw yw Rd yd S13
        (try clear Rw); (try clear yw); (try clear Zw)
        have Rw := cells_of (S14.box _ nW)
        have yw := blk_lt (S14.box _ nW)
        (try simp only at Rw yw)
        go_wp2_with fail
        refine (TQ.top (y := (hQ (wQ (psK kv) i), dsQ 2, [])) (iO i) rfl _ S14).mono ?_
        rintro r wc ⟨rfl, S15⟩
        clear Rw yw S14
        go_wp2_with fail
        refine (TQ.num _ _ S15).mono ?_
        rintro r wd ⟨rfl, S16⟩
        have qi : eqO ⟨3, false, (i : Int), 0, 0, ⟨#[]⟩⟩ ⟨3, false, (i : Int), 0, 0, ⟨#[]⟩⟩ = true := eqO_self _
        have hlm := run_lenI (S16.box _ nm) hmi
        simp only at hlm
        go_wp2_with fail
        go_ret
        exact ⟨rfl, S16.chg⟩
    · skip
      obtain ⟨K2, hK2⟩ : ∃ K', K' = [(mp, Obj.map es c), (g2, xBox hp cp sp gp (.pointer x) tp)] := ⟨_, rfl⟩
      have nW : (g2, xBox hp cp sp gp (.pointer x) tp) ∈ K2 := by rw [hK2]; exact m1
      rw [← hK2] at S5
      clear hK2
      have HP := hid' (fun W (S : TQ w hp cp sp K2 (hQ sysQ, dsQ 2, markO :: kvL kv) W) => TQ.push (y := (hQ sysQ, dsQ 2, markO :: kvL kv ++ [iO 1])) (iO 1) (by decide +kernel) (by simp [HLN.out]; omega) rfl W S)
      have QW := TQY.cells (w0 := w) (hp := hp) (cp := cp) (sp := sp) nW
      have lw := blk_lt (S5.box _ nW)
      simp only at lw
      have hY := TQY.of S5
      have HS := hid' S5
      clear S5
      go_upto_region 19 with (fail)
      go_region_held3 (fun W' => TQY w hp cp sp K2 W') (first | (with_reducible assumption) | (with_reducible exact TQY.drew (by with_reducible assumption)))
        (first
          | (go_at_call 12; refine (TQ.num _ _ (by first | (with_reducible exact HS.out) | (with_reducible exact HS.out.drew))).mono ?_; rintro r w11 ⟨rfl, SN⟩; have hYN := TQY.of SN)
          | (go_at_call 15; refine (HP.out _ (by with_reducible assumption)).mono ?_; rintro r w12 ⟨rfl, S6⟩; have hYP := TQY.of S6))
      clear HP QW lw hY HS SN hYN hYP
      go_upto_region 20 with (fail)
      (try clear Ra); (try clear ya); (try clear Za)
      have Ra := cells_of (S6.box _ nW)
      have ya := blk_lt (S6.box _ nW)
      (try simp only at Ra ya)
      go_wp2_with fail
      refine (TQ.items (2 * i + 2) (by simp [HLN.out]) (by omega) _ S6).mono ?_
      rintro r w6 ⟨g, cap2, cur, rfl, hcap2, S7, hcur⟩
      clear Ra ya S6
      have HC1 := hid' hcur
      clear hcur
      (try clear Ra); (try clear ya); (try clear Za)
      have Ra := cells_of (S7.box _ (List.mem_cons_of_mem _ nW))
      have ya := blk_lt (S7.box _ (List.mem_cons_of_mem _ nW))
      (try simp only at Ra ya)
      go_wp2_with fail
      refine (TQ.wangO kv (by have := HQ.out; omega) _ S7).mono ?_
      rintro r w7 ⟨rfl, S8⟩
      clear Ra ya S7
      (try clear Ra); (try clear ya); (try clear Za)
      have Ra := cells_of (S8.box _ (List.mem_cons_of_mem _ nW))
      have ya := blk_lt (S8.box _ (List.mem_cons_of_mem _ nW))
      (try simp only at Ra ya)
      go_wp2_with fail
      refine (TQ.items (2 * i + 2) (by simp [HLN.out]) (by omega) _ S8).mono ?_
      rintro r w8 ⟨g', cap3, cur3, rfl, hcap3, S9, hcur3⟩
      clear Ra ya S8
      have HSA := hid' (same_rows w8 _ _ (2 * i + 2) (markO :: kvL kv ++ [iO 1]) (by simp [HLN.out]) (by have := HQ.out.2.1; omega) (row_of (S9.box _ m0) hcap3 hcur3) (row_of (S9.box _ m1) hcap2 HC1.out))
      clear hcur3
      go_wp2_with fail
      refine HSA.out.mono ?_
      rintro r w9 ⟨rfl, X9⟩
      go_wp2_with fail
      go_ret
      exact ⟨rfl, (S9.pure X9).chg⟩
end Go.Proofs.YtpgkjgceldleaaaGreat
/- TableWhole, whatever comes. -/
namespace Go.Proofs.YtpgkjgceldleaaaGreat
open Go.RowKit

set_option maxRecDepth 100000 in
theorem tableWhole_any (va : Value) (zk : List Int) (vb : Value) (zv : List Int) (odd : Bool) (w : World) (wa : IntsAt w .u8 va zk) (wb : IntsAt w .i16 vb zv) :
    Calls Tryz.prog 4 #[va, vb, .bool odd] w fun e w' => e = .returned (.bool true) ∧ Chg NoB w w' := by
  by_cases hz : zk.length ≤ 40
  · exact tableWhole_in va zk vb zv odd w wa wb hz
  · have HKN := hid' (known20_any w)
    obtain ⟨ad, n, cap, rfl, hzl, -⟩ := wa
    obtain ⟨bd, nv, bcap, rfl, -⟩ := wb
    have d1 : decide ((40 : Int) < n) = true := by simp; omega
    clear hz hzl
    go_enter Tryz.func4, Tryz.ntmps4
    go_wp2_with fail
    refine HKN.out.mono ?_
    rintro r w1 ⟨rfl, X1⟩
    go_wp2_with fail
    go_ret
    exact ⟨rfl, X1⟩
end Go.Proofs.YtpgkjgceldleaaaGreat
