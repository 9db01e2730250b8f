/- Uve, Uvf -/
import Derived.Test.YtpgkjgceldleaaaZUvd
import Derived.Test.YtpgkjgceldleaaaZBuildc
import Derived.Test.YtpgkjgceldleaaaZLtk
/- BuildReads: the walk. -/
namespace Go.Proofs.Ytpgkjgceldleaaa
open Go.RowKit

theorem toks_news {w : World} {b off cap : Nat} {l : List Tok} (h : ToksAt w (.slice (some ⟨b, off, none⟩) l.length cap) l) : ∀ j u, (toksV l)[j]? = some u → w.cell? ((⟨b, off, none⟩ : Addr).add j) = some u := by
  intro j u hj
  have hlt := (List.getElem?_eq_some_iff.1 hj).1
  rw [toksV_len] at hlt
  obtain ⟨a, c, he, hc, hr⟩ := h
  simp only [Value.slice.injEq] at he
  obtain ⟨rfl, -, rfl⟩ := he
  obtain ⟨b', off', e, -, hcell⟩ := hr (by omega)
  simp only [Option.some.injEq, Addr.mk.injEq, and_true] at e
  obtain ⟨rfl, rfl⟩ := e
  have hi : j / 4 < l.length := by omega
  obtain ⟨t, ht⟩ : ∃ t, l[j / 4]? = some t := ⟨_, List.getElem?_eq_getElem hi⟩
  obtain ⟨c0, c1, c2, c3⟩ := hcell _ _ ht
  have hg := toksV_get l (j / 4) (j % 4) t ht (by omega)
  rw [show j / 4 * 4 + j % 4 = j by omega, hj] at hg
  have hr : j % 4 = 0 ∨ j % 4 = 1 ∨ j % 4 = 2 ∨ j % 4 = 3 := by omega
  have ha : ∀ r, (⟨b, off, none⟩ : Addr).add r = ⟨b, off + r, none⟩ := fun r => by simp [Addr.add]
  rw [ha, show off + j = off + j / 4 * 4 + j % 4 by omega]
  rcases hr with h | h | h | h <;> rw [h] at hg ⊢ <;> simp [Tok.cells] at hg <;> rw [hg] <;> assumption
theorem toks_one (l : List Tok) : ∀ u ∈ toksV l, u.oneCell' = true := by
  intro u hu
  obtain ⟨t, -, ht⟩ := List.mem_flatMap.1 hu
  simp only [Tok.cells, List.mem_cons, List.not_mem_nil, or_false] at ht
  rcases ht with rfl | rfl | rfl | rfl <;> rfl
theorem ToksAt.lenR {w : World} {v : Value} {l : List Tok} (h : ToksAt w v l) : ∃ a c, v = .slice a l.length c := by
  obtain ⟨a, c, h, -⟩ := h
  exact ⟨a, c, h⟩
theorem TokOk.okB {t : Tok} (h : TokOk t) : TokB t := by
  obtain ⟨h1, -, h3, -⟩ := h
  have e1 : IntKind.i64.min = -9223372036854775808 := by decide
  have e2 : IntKind.i64.max = 9223372036854775807 := by decide
  simp only [Lit.wf, Bool.and_eq_true, decide_eq_true_eq, e1, e2] at h1
  unfold maxLen at h3
  unfold TokB
  omega
theorem run_append_zeroR (P : Program) (w : World) (base : Nat) (t ty e : TypeId) (i : TypeInfo) (size : Nat) (ht : P.underlying t = some (.slice e)) (hi : P.info? e = some i)
    (v : Value) (n : Nat) (xs : List Value) (hown : w.ownsRow base e size v n xs) (a : Option Addr) (c : Nat) :
    (Builtin.append_ #[t, t] ty #[v, .slice a 0 c]).run P w = .ok v w := by
  rcases hown.2 with ⟨rfl, rfl⟩ | ⟨g, cap, cur, rfl, _, _, hnc, _⟩
  · cases a <;> simp [Builtin.append_, run_underlying ht, sizeOf, typeInfo, hi, Builtin.lenOf, Builtin.firstCells, loadCells, loadCellsFrom]
  · cases a <;> simp [Builtin.append_, run_underlying ht, sizeOf, typeInfo, hi, Builtin.lenOf, Builtin.firstCells, hnc, storeCells, loadCells, loadCellsFrom]
theorem wpList_append_zeroR {P : Program} {w : World} {ops : Array Oper} {rest : List Oper} {o : Oper} {a : Act} {Q : Exit → Act → World → Prop} (hgd : o.guard = none) (s x : Operand) (t : TypeId)
    (ho : o.op = .call { callee := .builtin .append, args := #[s, x], argTypes := #[t, t] })
    (base : Nat) (e : TypeId) (i : TypeInfo) (size : Nat) (ht : P.underlying t = some (.slice e)) (hi : P.info? e = some i)
    (v : Value) (n : Nat) (xs : List Value) (hs : a.eval s = v) (hown : w.ownsRow base e size v n xs) (ad : Option Addr) (c : Nat) (hx : a.eval x = .slice ad 0 c)
    (h : wpList P ops Q rest (a.put o.dst v) w) : wpList P ops Q (o :: rest) a w := by
  refine wpList_plain hgd fun K hK => ?_
  have hrun := run_append_zeroR P w base t o.type e i size ht hi v n xs hown ad c
  unfold Oper.wp
  simp [execOp, ho, resolve, invoke, builtin, hs, hx, hrun, Result.andThen]
  exact hK _ _ h
/-- What the loop has seen. -/
def LoopR (l : List Tok) (i : Nat) (dd : Int) (g : Nat) : Prop := dpF (l.take i) = dd ∧ costs (l.take i) = g ∧ (∀ t ∈ l.take i, OkR t) ∧ ∀ j, j ≤ i → 0 ≤ dpF (l.take j) ∧ dpF (l.take j) ≤ 15
theorem LoopR.start (l : List Tok) : LoopR l 0 0 0 := ⟨rfl, rfl, fun t ht => by simp at ht, fun j hj => by
  obtain rfl : j = 0 := by omega
  exact ⟨Int.le_refl _, by show (0 : Int) ≤ 15; decide⟩⟩
theorem LoopR.step {l : List Tok} {i : Nat} {dd d1 : Int} {g : Nat} {t : Tok} (h : LoopR l i dd g) (ht : l[i]? = some t) (hok : OkR t) (h1 : dd + dpT t = d1) (hd : 0 ≤ d1 ∧ d1 ≤ 15) : LoopR l (i + 1) d1 (g + 4 * t.s.size + 15) := by
  obtain ⟨e1, e2, e3, e4⟩ := h
  obtain ⟨hi, rfl⟩ := List.getElem?_eq_some_iff.1 ht
  have htk : l.take (i + 1) = l.take i ++ [l[i]] := List.take_succ_eq_append_getElem hi
  have hdp : dpF (l.take (i + 1)) = d1 := by rw [htk, dpF_app, e1, ← h1]; simp [dpF]
  refine ⟨hdp, ?_, ?_, ?_⟩
  · rw [htk, costs_app, e2]; simp [costs, costT]; omega
  · rw [htk]
    intro t ht
    rcases List.mem_append.1 ht with ht | ht
    · exact e3 t ht
    · simp only [List.mem_cons, List.not_mem_nil, or_false] at ht
      rw [ht]; exact hok
  · intro j hj
    by_cases c : j ≤ i
    · exact e4 j c
    · obtain rfl : j = i + 1 := by omega
      rw [hdp]; exact hd
theorem costs_le : ∀ l : List Tok, (∀ t ∈ l, OkR t) → costs l ≤ 95 * l.length
  | [], _ => Nat.zero_le _
  | t :: l, h => by
    have h1 := costs_le l fun x hx => h x (List.mem_cons_of_mem _ hx)
    have h2 := (h t (List.mem_cons_self ..)).2.1
    simp only [costs, List.map_cons, List.sum_cons, List.length_cons] at h1 ⊢
    unfold costT at *
    omega
theorem LoopR.bounds {l : List Tok} {i : Nat} {dd : Int} {g : Nat} (h : LoopR l i dd g) (hi : i ≤ 25) : 0 ≤ dd ∧ dd ≤ 15 ∧ g ≤ 2375 := by
  obtain ⟨e1, e2, e3, e4⟩ := h
  have h1 := e4 i (Nat.le_refl _)
  have h2 := costs_le _ e3
  rw [List.length_take] at h2
  omega

set_option maxRecDepth 100000 in
set_option maxHeartbeats 16000000 in
theorem buildReads_in (a : Option Addr) (c : Nat) (l : List Tok) (n : Nat) (hn : l.length = n) (w : World) (hv : ToksAt w (.slice a n c) l) (hok : ∀ t ∈ l, TokB t) (hl : n ≤ 25) :
    Calls Try.prog 4 #[.slice a n c] w fun e w' => e = .returned (.bool true) ∧ Chg NoB w w' := by
  have HKN := hid' (known22_any w)
  have HV := hid' hv
  have HOK := hid' hok
  have HN := hid' hn
  have hn25 : ¬ (25 : Int) < n := by omega
  have HCAP : Hid (∀ i, i < n → (∃ b off, a = some ⟨b, off, none⟩ ∧ b < w.heap.size ∧ ∀ (i : Nat) (t : Tok), l[i]? = some t → TokC w b (off + i * 4) t) ∧ n ≤ c) := hid' (fun i hi => by
    obtain ⟨a', c', he, hc, hr⟩ := hv
    simp only [Value.slice.injEq] at he
    obtain ⟨rfl, h1, rfl⟩ := he
    exact ⟨hr (by omega), by omega⟩)
  clear hv hok hn
  go_enter Try.func4, Try.ntmps4
  go_wp2_with fail
  refine HKN.out.mono ?_
  rintro e w1 ⟨rfl, X1⟩
  clear HKN
  go_wp2_with fail
  go_loopw [3, 4, 5] (fun dv gv iv wr => ∃ (i : Nat) (dd : Int) (g : Nat), i ≤ n ∧ dv = .int .i64 dd ∧ gv = .int .i64 g ∧ iv = .int .i64 i ∧ LoopR l i dd g ∧ Chg NoB w wr) (fun _ _ iv _ => n - (intOf iv).toNat)
  case atStart => exact ⟨0, 0, 0, Nat.zero_le _, rfl, rfl, rfl, LoopR.start l, X1⟩
  case round =>
  obtain ⟨i, dd, g, hin, rfl, rfl, rfl, hL, X⟩ := hrel
  clear X1
  have hbd := hL.bounds (by omega)
  by_cases hlt : i < n
  · have dl : (i : Int) < n := by omega
    have di : (0 : Int) ≤ i := by omega
    have vi := IntWalk.i64_in ((i : Int) + 1) (by omega)
    obtain ⟨⟨b, off, rfl, hbl, hcell⟩, hcap⟩ := HCAP.out i hlt
    have hcn : (n : Int) ≤ c := by omega
    obtain ⟨t, ht⟩ : ∃ t, l[i]? = some t := ⟨l[i]'(by rw [HN.out]; exact hlt), List.getElem?_eq_getElem _⟩
    obtain ⟨c1, c2, c3, c4⟩ := (hcell i t ht).pure X
    have bl : b < wr.heap.size := Nat.lt_of_lt_of_le hbl X.size
    have hB := HOK.out t (List.mem_of_getElem? ht)
    have HSTEP := hid' (fun (d1 : Int) (hm : mayT t = true) (h1 : dd + dpT t = d1) (hd : 0 ≤ d1 ∧ d1 ≤ 15) (h20 : t.s.size ≤ 20) (hk : t.kind ≠ 5 ∧ t.kind ≠ 9 ∧ t.kind ≠ 10 ∧ t.kind ≠ 11 ∧ t.kind ≠ 12) => hL.step ht ⟨hm, h20, hk⟩ h1 hd)
    have HM := hid' (fun w => mayTok_any t hB.1 hB.2.1 hB.2.2 w)
    obtain ⟨tk, tn, ts, tp⟩ := t
    simp only at c1 c2 c3 c4 HSTEP hB
    clear hcell hL ht
    have X1 := X.alloc (tokBox tk tn ts tp)
    have hb := blk_new wr (tokBox tk tn ts tp)
    go_upto_region 10 with (fail)
    generalize hg : wr.heap.size = b6 at *
    generalize hW : wr.alloc _ = w2 at *
    clear hW hg X c1 c2 c3 c4 bl
    have Rb := cells_of hb
    have yb := blk_lt hb
    by_cases h20 : (20 : Int) < ts.size
    · have HX := hid' X1
      clear X1 HSTEP HM
      go_wp2_with fail
      go_ret
      exact ⟨rfl, HX.out⟩
    have v1 := IntWalk.i64_in (4 * (ts.size : Int)) (by omega)
    have v2 := IntWalk.i64_in ((g : Int) + 4 * (ts.size : Int)) (by omega)
    have v3 := IntWalk.i64_in ((g : Int) + 4 * (ts.size : Int) + 15) (by omega)
    replace HSTEP := hid' (fun (d1 : Int) (hm : mayT ⟨tk, tn, ts, tp⟩ = true) (hk : tk ≠ 5 ∧ tk ≠ 9 ∧ tk ≠ 10 ∧ tk ≠ 11 ∧ tk ≠ 12) (h1 : dd + dpT ⟨tk, tn, ts, tp⟩ = d1) (hd : 0 ≤ d1 ∧ d1 ≤ 15) => HSTEP.out d1 hm h1 hd (by omega) hk)
    by_cases e7 : tk = 7
    · subst e7
      replace HSTEP := hid' (fun (d1 : Int) (hm : mayT ⟨7, tn, ts, tp⟩ = true) (h1 : dpT ⟨7, tn, ts, tp⟩ = d1 - dd) (hd : 0 ≤ d1 ∧ d1 ≤ 15) => HSTEP.out d1 hm (by decide) (by omega) hd)
      have vd := IntWalk.i64_in (dd + 1) (by omega)
      go_wp2_with fail
      refine (HM.out _).mono ?_
      rintro r w2 ⟨rfl, X2⟩
      have X3 := X1.trans X2
      clear X1 X2 hb Rb yb
      cases hmv : mayT ⟨7, tn, ts, tp⟩ with
      | false =>
        have HX := hid' X3
        clear X3 hmv HSTEP
        go_wp2_with fail
        go_ret
        exact ⟨rfl, HX.out⟩
      | true =>
        have HSTP := hid' (HSTEP.out (dd + 1) hmv)
        have HX := hid' X3
        clear X3 hmv HSTEP
        have dlo : ¬ dd + 1 < 0 := by omega
        by_cases dhi : 15 < dd + 1
        · go_wp2_with fail
          go_ret
          exact ⟨rfl, HX.out⟩
        · go_wp2_with fail
          go_roundw
          case rel => exact ⟨i + 1, (dd + 1), g + 4 * ts.size + 15, by omega, rfl, by go_num, by go_num, HSTP.out (by unfold dpT; rw [if_pos rfl]; omega) (by omega), HX.out⟩
          case measure => simp [intOf]; omega
    by_cases e8 : tk = 8
    · subst e8
      replace HSTEP := hid' (fun (d1 : Int) (hm : mayT ⟨8, tn, ts, tp⟩ = true) (h1 : dpT ⟨8, tn, ts, tp⟩ = d1 - dd) (hd : 0 ≤ d1 ∧ d1 ≤ 15) => HSTEP.out d1 hm (by decide) (by omega) hd)
      have vd := IntWalk.i64_in (dd - 1) (by omega)
      go_wp2_with fail
      refine (HM.out _).mono ?_
      rintro r w2 ⟨rfl, X2⟩
      have X3 := X1.trans X2
      clear X1 X2 hb Rb yb
      cases hmv : mayT ⟨8, tn, ts, tp⟩ with
      | false =>
        have HX := hid' X3
        clear X3 hmv HSTEP
        go_wp2_with fail
        go_ret
        exact ⟨rfl, HX.out⟩
      | true =>
        have HSTP := hid' (HSTEP.out (dd - 1) hmv)
        have HX := hid' X3
        clear X3 hmv HSTEP
        have dhi : ¬ 15 < dd - 1 := by omega
        by_cases dlo : dd - 1 < 0
        · go_wp2_with fail
          go_ret
          exact ⟨rfl, HX.out⟩
        · go_wp2_with fail
          go_roundw
          case rel => exact ⟨i + 1, (dd - 1), g + 4 * ts.size + 15, by omega, rfl, by go_num, by go_num, HSTP.out (by unfold dpT; rw [if_neg (by show ¬ (8 : Int) = 7; decide), if_pos rfl]; omega) (by omega), HX.out⟩
          case measure => simp [intOf]; omega
    by_cases ho : tk = 5 ∨ tk = 9 ∨ tk = 10 ∨ tk = 11 ∨ tk = 12
    · have HX := hid' X1
      clear X1 HSTEP HM hB
      rcases ho with rfl | rfl | rfl | rfl | rfl
      · go_wp2_with fail
        go_ret
        exact ⟨rfl, HX.out⟩
      · go_wp2_with fail
        go_ret
        exact ⟨rfl, HX.out⟩
      · go_wp2_with fail
        go_ret
        exact ⟨rfl, HX.out⟩
      · go_wp2_with fail
        go_ret
        exact ⟨rfl, HX.out⟩
      · go_wp2_with fail
        go_ret
        exact ⟨rfl, HX.out⟩
    · obtain ⟨e5, ho⟩ : ¬ tk = 5 ∧ ¬ (tk = 9 ∨ tk = 10 ∨ tk = 11 ∨ tk = 12) := by omega
      obtain ⟨e9, ho⟩ : ¬ tk = 9 ∧ ¬ (tk = 10 ∨ tk = 11 ∨ tk = 12) := by omega
      obtain ⟨e10, ho⟩ : ¬ tk = 10 ∧ ¬ (tk = 11 ∨ tk = 12) := by omega
      obtain ⟨e11, e12⟩ : ¬ tk = 11 ∧ ¬ tk = 12 := by omega
      clear ho
      replace HSTEP := hid' (fun (d1 : Int) (hm : mayT ⟨tk, tn, ts, tp⟩ = true) (h1 : dpT ⟨tk, tn, ts, tp⟩ = d1 - dd) (hd : 0 ≤ d1 ∧ d1 ≤ 15) => HSTEP.out d1 hm ⟨e5, e9, e10, e11, e12⟩ (by omega) hd)
      go_wp2_with fail
      refine (HM.out _).mono ?_
      rintro r w2 ⟨rfl, X2⟩
      have X3 := X1.trans X2
      clear X1 X2 hb Rb yb
      cases hmv : mayT ⟨tk, tn, ts, tp⟩ with
      | false =>
        have HX := hid' X3
        clear X3 hmv HSTEP
        go_wp2_with fail
        go_ret
        exact ⟨rfl, HX.out⟩
      | true =>
        have HSTP := hid' (HSTEP.out dd hmv)
        have HX := hid' X3
        clear X3 hmv HSTEP
        have dlo : ¬ dd < 0 := by omega
        have dhi : ¬ 15 < dd := by omega
        go_wp2_with fail
        go_roundw
        case rel => exact ⟨i + 1, dd, g + 4 * ts.size + 15, by omega, rfl, by go_num, by go_num, HSTP.out (by rw [dpT_leaf e7 e8]; omega) (by omega), HX.out⟩
        case measure => simp [intOf]; omega
  · obtain rfl : i = n := by omega
    by_cases hd0 : dd = 0
    rotate_left
    · have HX := hid' X
      clear X
      go_wp2_with fail
      go_ret
      exact ⟨rfl, HX.out⟩
    subst hd0
    by_cases hg9 : (900 : Int) < g
    · have HX := hid' X
      clear X
      go_wp2_with fail
      go_ret
      exact ⟨rfl, HX.out⟩
    have hLi := hL
    rw [← HN.out] at hLi
    obtain ⟨q1, q2, q3, q4⟩ := hLi
    rw [List.take_length] at q1 q2 q3
    obtain ⟨L, o, hpr, hgd, hk3⟩ := prog_reads (hQ sysQ) (by rw [sysQ_len8]; decide) (by rw [sysQ_used8]; decide) l (by rw [HN.out]; exact hl) q3 q4 q1
    obtain ⟨htl, us, hal, hul, haf⟩ := reads_text hgd hk3 (by omega) (by rw [HN.out]; exact hl)
    rw [HN.out] at hul
    obtain ⟨T, hT⟩ : ∃ T, textR L 20 o = T := ⟨_, rfl⟩
    have HFL := hid' (fun (hp : Nat) (W : World) (K : List (Nat × Obj)) (A : Ats w W [(hp, L)] K) => full_good A (List.mem_cons_self ..) o hgd htl)
    rw [hT] at htl haf HFL
    have htz : (bytesB T).size = T.length := rfl
    have HAL := hid' (fun W => all_any (bytesB T) (by omega) W)
    rw [bytesB_lst, haf] at HAL
    have HPR := hid' (fun (hp cp : Nat) (W : World) (A : Ats w W ((hp, hQ sysQ) :: []) []) => prog_any (cp := cp) A (.slice a i c) l (fun W M' E A' => HV.out.pure A'.chg) HOK.out (by rw [HN.out]; omega) noF (no5 fun t ht => (q3 t ht).2.2.1) hpr)
    have HALK := hid' hal
    obtain ⟨ok, ox, on, op, ol, oS⟩ := o
    obtain ⟨i0, hi, hz0, hz1, hz2⟩ := info_parts infoTok
    have HX := hid' X
    clear hL q1 q2 q3 q4 hpr hgd hk3 htl hal haf hT X hbd htz
    go_wp2_with fail
    refine (at_hnew (Ats.start HX.out)).mono ?_
    rintro e w2 ⟨hp, rfl, A0⟩
    clear HX hg9
    go_wp2_with fail
    refine (new22 A0).mono ?_
    rintro e w3 ⟨cp, rfl, A1⟩
    clear A0
    go_wp2_with fail
    refine (HPR.out _ _ _ A1).mono ?_
    rintro e w4 ⟨rfl, A2⟩
    clear A1 HPR
    have A3 := A2.alloc (Obj.cells #[.int .i64 ok, .bool ox, .int .i64 on, .int .i64 op, .int .i64 ol, .string oS] 36)
    generalize hgg : w4.heap.size = b10 at *
    go_upto_region 31 with (fail)
    generalize hW : w4.alloc _ = w5 at *
    clear hW hgg A2
    have Rb := cells_of (A3.box _ m0)
    have yb := blk_lt (A3.box _ m0)
    simp only at Rb yb
    have HFC := hid' (HFL.out _ _ _ A3)
    clear A3 HFL
    go_wp2_with fail
    refine HFC.out.mono ?_
    rintro e w6 ⟨rfl, A4⟩
    clear HFC Rb yb
    go_wp2_with fail
    refine (HAL.out _).mono ?_
    rintro e w7 ⟨v7, rfl, X7, own7, -⟩
    clear HAL
    obtain ⟨R1, hR1, A5⟩ := A4.ofOwnsB X7 own7
    replace A5 := A5.keep (List.sublist_append_left R1 _)
    simp only at hR1
    clear X7 own7 A4
    have A6 : Ats w (w7.alloc (.cells #[.int .i64 7, .int .i64 0, .string ⟨#[]⟩, .int .i64 0] 31)) [(hp, L)] ([(w7.heap.size, .cells #[.int .i64 7, .int .i64 0, .string ⟨#[]⟩, .int .i64 0] 31)] ++ R1) := A5.alloc _
    have hR6 : RowG 31 4 [(w7.heap.size, .cells #[.int .i64 7, .int .i64 0, .string ⟨#[]⟩, .int .i64 0] 31)] (.slice (some ⟨w7.heap.size, 0, none⟩) 1 1) 1 (toksV [tkOR]) := .inr ⟨_, 1, _, rfl, rfl, Nat.le_refl _, by decide, rfl, rfl, rfl⟩
    have HS := hid' A5.chg.size
    have HLN := hid' hul
    clear hul
    by_cases h0 : i = 0
    · subst h0
      obtain rfl : l = [] := List.eq_nil_of_length_eq_zero HN.out
      go_wp2_with (at_builtin; first
        | (refine wpList_append_zeroR rfl (.tmp 99) (.tmp 100) 29 rfl w.heap.size 31 i0 4 underToks hi (.slice (some ⟨w7.heap.size, 0, none⟩) 1 1) 1 (toksV [tkOR]) rfl (Ats.ownsG A6 hR6) a c rfl ?_)
        | (refine wpList_append_own_at _ rfl (.tmp 101) (.tmp 103) 29 rfl w.heap.size 31 i0 (.agg #[.int .i64 0, .int .i64 0, .string ⟨#[]⟩, .int .i64 0]) 4 40 underToks hi hz0 hz1 hz2 rfl (by decide) (.slice (some ⟨w7.heap.size, 0, none⟩) 1 1) 1 (toksV [tkOR]) rfl (Ats.ownsG (A6.pure ((Chg.refl NoB _).alloc _)) hR6) _ 1 1 (Tok.cells tkCR) rfl rfl (newsB_all (T := 31) (fz := (0, 0)) (blk_new1 _ _ _)) (toks_one [tkCR]) ?_ ?_ ?_ ?_; (unfold maxLen; omega); omega; (simp; have := HS.out; omega); intro v9 w9 hown9 hgr9 _ hob9; have HG := hid' (Ats.grownG (A6.pure ((Chg.refl NoB _).alloc _)) hR6 hown9 hgr9 hob9 (by decide)); clear hown9 hgr9 hob9))
      obtain ⟨R9, hR9, A9⟩ := HG.out
      clear HG A5 A6 hR6
      have hw : RowG 31 4 R9 v9 (tkOR :: ([] ++ [tkCR])).length (toksV (tkOR :: ([] ++ [tkCR]))) := by
        have e1 : (tkOR :: ([] ++ [tkCR])).length = 1 + 1 := rfl
        have e2 : toksV (tkOR :: ([] ++ [tkCR])) = toksV [tkOR] ++ Tok.cells tkCR := by simp [toksV]
        rw [e1, e2]
        exact hR9
      have HTK := hid' (tokens_any (l := us) (m := (tkOR :: ([] ++ [tkCR]))) (by rw [HLN.out]; omega) (toksG (E := R9) (K := []) hR1 (by rw [List.append_nil]; exact A9)) (toksG (E := []) (K := R1) hw A9) false HALK.out)
      have HX := hid' A9.chg
      clear A9 hw hR9 hR1
      go_wp2_with fail
      refine HTK.out.mono ?_
      rintro r w10 ⟨rfl, X10⟩
      go_wp2_with fail
      go_ret
      exact ⟨rfl, HX.out.trans X10⟩
    · obtain ⟨⟨b, off, rfl, hbl, hcell⟩, hcap⟩ := HCAP.out 0 (by omega)
      have HNW := hid' (fun W (X : Chg NoB w W) => toks_news (w := W) (b := b) (off := off) (cap := c) (l := l) (by rw [HN.out]; exact HV.out.pure X))
      clear hcell hbl HCAP
      go_wp2_with (at_builtin; first
        | (refine wpList_append_own_at _ rfl (.tmp 99) (.tmp 100) 29 rfl w.heap.size 31 i0 (.agg #[.int .i64 0, .int .i64 0, .string ⟨#[]⟩, .int .i64 0]) 4 40 underToks hi hz0 hz1 hz2 rfl (by decide) (.slice (some ⟨w7.heap.size, 0, none⟩) 1 1) 1 (toksV [tkOR]) rfl (Ats.ownsG A6 hR6) ⟨b, off, none⟩ i c (toksV l) rfl (by rw [toksV_len, HN.out]) (HNW.out _ A6.chg) (toks_one l) ?_ ?_ ?_ ?_; (unfold maxLen; omega); omega; (simp; have := HS.out; omega); intro v8 w8 hown8 hgr8 _ hob8; obtain ⟨R8, hR8, A8⟩ := Ats.grownG A6 hR6 hown8 hgr8 hob8 (by omega); have HS8 := hid' A8.chg.size; clear hown8 hgr8 hob8)
        | (refine wpList_append_own_at _ rfl (.tmp 101) (.tmp 103) 29 rfl w.heap.size 31 i0 (.agg #[.int .i64 0, .int .i64 0, .string ⟨#[]⟩, .int .i64 0]) 4 40 underToks hi hz0 hz1 hz2 rfl (by decide) v8 (1 + i) (toksV [tkOR] ++ toksV l) rfl (Ats.ownsG (A8.pure ((Chg.refl NoB _).alloc _)) hR8) _ 1 1 (Tok.cells tkCR) rfl rfl (newsB_all (T := 31) (fz := (0, 0)) (blk_new _ _)) (toks_one [tkCR]) ?_ ?_ ?_ ?_; (unfold maxLen; omega); omega; (simp; have := HS8.out; omega); intro v9 w9 hown9 hgr9 _ hob9; have HG := hid' (Ats.grownG (A8.pure ((Chg.refl NoB _).alloc _)) hR8 hown9 hgr9 hob9 (by decide)); clear hown9 hgr9 hob9))
      obtain ⟨R9, hR9, A9⟩ := HG.out
      clear HG A5 A6 hR6 A8 hR8 HS8
      have hw : RowG 31 4 R9 v9 (tkOR :: (l ++ [tkCR])).length (toksV (tkOR :: (l ++ [tkCR]))) := by
        have e1 : (tkOR :: (l ++ [tkCR])).length = 1 + i + 1 := by simp only [List.length_cons, List.length_append, List.length_nil, HN.out]; omega
        have e2 : toksV (tkOR :: (l ++ [tkCR])) = toksV [tkOR] ++ toksV l ++ Tok.cells tkCR := by simp [toksV]
        rw [e1, e2]
        exact hR9
      have HTK := hid' (tokens_any (l := us) (m := (tkOR :: (l ++ [tkCR]))) (by rw [HLN.out]; omega) (toksG (E := R9) (K := []) hR1 (by rw [List.append_nil]; exact A9)) (toksG (E := []) (K := R1) hw A9) false HALK.out)
      have HX := hid' A9.chg
      clear A9 hw hR9 hR1
      go_wp2_with fail
      refine HTK.out.mono ?_
      rintro r w10 ⟨rfl, X10⟩
      go_wp2_with fail
      go_ret
      exact ⟨rfl, HX.out.trans X10⟩
end Go.Proofs.Ytpgkjgceldleaaa
/- BuildReads, whatever comes. -/
namespace Go.Proofs.Ytpgkjgceldleaaa
open Go.RowKit

set_option maxRecDepth 100000 in
theorem buildReads_any (va : Value) (l : List Tok) (w : World) (wa : ToksIn w va l) :
    Calls Try.prog 4 #[va] w fun e w' => e = .returned (.bool true) ∧ Chg NoB w w' := by
  obtain ⟨hv, hln, hok⟩ := wa
  obtain ⟨a, c, rfl⟩ := hv.lenR
  by_cases hz : l.length ≤ 25
  · exact buildReads_in a c l l.length rfl w hv (fun t ht => (hok t ht).okB) hz
  · have HKN := hid' (known22_any w)
    have d1 : decide ((25 : Int) < l.length) = true := by simp; omega
    clear hz hv hln hok
    go_enter Try.func4, Try.ntmps4
    go_wp2_with fail
    refine HKN.out.mono ?_
    rintro r w1 ⟨rfl, X1⟩
    go_wp2_with fail
    go_ret
    exact ⟨rfl, X1⟩
end Go.Proofs.Ytpgkjgceldleaaa
