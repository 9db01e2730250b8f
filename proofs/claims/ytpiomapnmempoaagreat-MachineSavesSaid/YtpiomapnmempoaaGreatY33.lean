/- Parts of the proof: Ubo. -/
import Derived.Test.YtpiomapnmempoaaGreatY30
namespace Go.Proofs.YtpiomapnmempoaaGreat
open Go.RowKit
variable {i : Nat} {l0 : List O}
set_option maxRecDepth 100000 in
theorem bname_any (k : Int) (w : World) : Calls Tryz.prog 70 #[.int .i64 k] w fun r w' => r = .returned (.string (signN k)) ∧ Chg NoB w w' := by
 unfold signN; go_enter Tryz.func70, Tryz.ntmps70
 by_cases h9 : k = 9
 · rw [if_pos h9]; go_wp2_with fail
   go_ret; exact ⟨rfl, Chg.refl NoB w⟩
 · rw [if_neg h9]
   by_cases h10 : k = 10
   · rw [if_pos h10]; go_wp2_with fail
     go_ret; exact ⟨rfl, Chg.refl NoB w⟩
   · rw [if_neg h10]
     by_cases h11 : k = 11
     · rw [if_pos h11]; go_wp2_with fail
       go_ret; exact ⟨rfl, Chg.refl NoB w⟩
     · rw [if_neg h11]; go_wp2_with fail
       go_ret; exact ⟨rfl, Chg.refl NoB w⟩
theorem permB {α : Type} {a : α} {X Y Z : List α} : (a :: (X ++ (Y ++ Z))).Perm (X ++ (Y ++ a :: Z)) :=
 (List.perm_middle (l₁ := X)).symm.trans ((List.perm_middle (l₁ := Y)).symm.append_left X)
theorem permC {α : Type} {X Y Z : List α} : (X ++ (Y ++ Z)).Perm (Y ++ (X ++ Z)) := by
 classical refine List.perm_iff_count.2 fun q => ?_
 simp only [List.count_append]; omega
theorem len_put {o : O} {ls : List (List O)} (h : ∀ l ∈ ls, l.length ≤ i) : ∀ l ∈ putB o ls, l.length ≤ i + 1 := by
 cases ls with
 | nil => intro l hl; simp [putB] at hl
 | cons a ls =>
  intro l hl; simp only [putB, List.mem_cons] at hl
  rcases hl with rfl | hl
  · have := h a (List.mem_cons_self ..); simp; omega
  · have := h l (List.mem_cons_of_mem _ hl); omega
theorem putB_length {o : O} {ls : List (List O)} : (putB o ls).length = ls.length := by cases ls <;> rfl
def OkO (i : Nat) (ls : List (List O)) (bg : List Int) : Prop := ls.length = bg.length + 1 ∧ bg.length ≤ 20 ∧ ∀ l ∈ ls, l.length ≤ i
theorem OkO.put {ls : List (List O)} {bg : List Int} (h : OkO i ls bg) (o : O) : OkO (i + 1) (putB o ls) bg := ⟨by rw [putB_length]; exact h.1, h.2.1, len_put h.2.2⟩
theorem OkO.opens {ls : List (List O)} {bg : List Int} (h : OkO i ls bg) (h20 : bg.length ≠ 20) (b : Int) : OkO (i + 1) ([] :: ls) (b :: bg) := ⟨by simp [h.1], by have := h.2.1; simp; omega, fun l hl => by
 rcases List.mem_cons.1 hl with rfl | hl
 · simp
 · have := h.2.2 l hl; omega⟩
theorem OkO.shut {l : List O} {ls : List (List O)} {b : Int} {bg : List Int} (h : OkO i (l :: ls) (b :: bg)) (o : O) : OkO (i + 1) (putB o ls) bg := ⟨by rw [putB_length]; have := h.1; simp at this; omega, by have := h.2.1; simp at this; omega, len_put fun l' hl' => h.2.2 l' (List.mem_cons_of_mem _ hl')⟩
theorem objsB_err {F : List C → ByteArray → O × Int} {L : List C} {ts : List Tok} {t : Tok} {s : OSt} {L1 : List C} {a e : Int} (hr : runO F 0 (ts.take i) (L, [[]], []) = .inl s) (ht : ts[i]? = some t) (hs : stepO F i t s = .inr (L1, a, e)) : objsB F L ts = (L1, [], a, e) := by
 have hi : i < ts.length := (List.getElem?_eq_some_iff.1 ht).1; have h1 := runO_snoc F (ts.take i) t 0 _ _ hr; rw [show ((0 : Int) + (ts.take i).length) = (i : Int) by rw [List.length_take]; omega, hs] at h1; have h2 := runO_err F (ts.take i ++ [t]) (ts.drop (i + 1)) 0 _ _ h1
 rw [show ts.take i ++ [t] ++ ts.drop (i + 1) = ts by
  have : ts.take (i + 1) = ts.take i ++ [t] := by rw [List.take_add_one, ht]; rfl
  rw [← this, List.take_append_drop]] at h2
 unfold objsB; rw [h2]
theorem runO_next {F : List C → ByteArray → O × Int} {L : List C} {ts : List Tok} {t : Tok} {s s' : OSt} (hr : runO F 0 (ts.take i) (L, [[]], []) = .inl s) (ht : ts[i]? = some t) (hs : stepO F i t s = .inl s') : runO F 0 (ts.take (i + 1)) (L, [[]], []) = .inl s' := by
 have hi : i < ts.length := (List.getElem?_eq_some_iff.1 ht).1; rw [List.take_add_one, ht]; have h1 := runO_snoc F (ts.take i) t 0 _ _ hr; rw [show ((0 : Int) + (ts.take i).length) = (i : Int) by rw [List.length_take]; omega, hs] at h1; exact h1
theorem OkO.l1 {ls0 : List (List O)} {bg : List Int} (h : OkO i (l0 :: ls0) bg) (hi : i ≤ 1000) : l0.length ≤ 100000 := by
 have := h.2.2 l0 (List.mem_cons_self ..); omega
theorem OkO.l2 {ls0 : List (List O)} {bg : List Int} (h : OkO i (l0 :: ls0) bg) : ls0.length ≤ 1000 := by
 have h1 := h.1; have h2 := h.2.1; rw [List.length_cons] at h1; omega
theorem OkO.l3 {l1 : List O} {ls1 : List (List O)} {bg : List Int} (h : OkO i (l0 :: l1 :: ls1) bg) (hi : i ≤ 1000) : l1.length ≤ 100000 := by
 have := h.2.2 l1 (List.mem_cons_of_mem _ (List.mem_cons_self ..)); omega
theorem OkO.l4 {l1 : List O} {ls1 : List (List O)} {bg : List Int} (h : OkO i (l0 :: l1 :: ls1) bg) : ls1.length ≤ 1000 := by
 have h1 := h.1; have h2 := h.2.1; rw [List.length_cons, List.length_cons] at h1; omega
set_option maxRecDepth 100000 in
set_option maxHeartbeats 16000000 in
theorem objs_any {w0 w : World} {M : List (Nat × List C)} {K : List (Nat × Obj)} {hp cp : Nat} {L0 : List C} (A : Ats w0 w ((hp, L0) :: M) K) (vt : Value) (toks : List Tok) (HT : ∀ W M' E, Ats w0 W M' (E ++ K) → ToksAt W vt toks) (htk : ∀ t ∈ toks, TokB t) (hn : toks.length ≤ 1000)
 (F : List C → ByteArray → O × Int) (HFI : ∀ i L ls bg t, runO F 0 (toks.take i) (L0, [[]], []) = .inl (L, ls, bg) → toks[i]? = some t → t.kind = 5 → mayT t = true → ∀ W E, Ats w0 W ((hp, L) :: M) (E ++ K) →
  Calls Tryz.prog 69 #[ptr cp, (exeN t.s).val] W fun r w' => ∃ d, r = .returned (.tuple #[(F L t.s).1.val, d, .int .i64 (F L t.s).2]) ∧ Ats w0 w' ((hp, L) :: M) (E ++ K))
 {L' : List C} {os : List O} {at_ e : Int} (hres : objsB F L0 toks = (L', os, at_, e)) :
 Calls Tryz.prog 40 #[ptr hp, ptr cp, vt] w fun r w' => ∃ v R, r = .returned (.tuple #[v, .int .i64 at_, .int .i64 e]) ∧ RowG 49 6 R v os.length (os.flatMap O.cells) ∧ Ats w0 w' ((hp, L') :: M) (R ++ K) := by
 obtain ⟨n, hn'⟩ : ∃ n, toks.length = n := ⟨_, rfl⟩
 obtain ⟨ad, cap, rfl, hcap, -⟩ := HT w _ [] A; rw [hn'] at hcap hn HT ⊢; have HTK := hid' (fun (i : Nat) (hi : i < n) => (show ∃ t, toks[i]? = some t ∧ TokB t from ⟨toks[i], List.getElem?_eq_getElem _, htk _ (List.getElem_mem _)⟩))
 have HTC := hid' (fun (W : World) (M' : List (Nat × List C)) (E : List (Nat × Obj)) (A : Ats w0 W M' (E ++ K)) (i : Nat) (t : Tok) (ht : toks[i]? = some t) => (show ∃ b off, ad = some ⟨b, off, none⟩ ∧ b < W.heap.size ∧ TokC W b (off + i * 4) t by
  obtain ⟨a', c', hv, -, hc⟩ := HT W M' E A; simp only [Value.slice.injEq] at hv; obtain ⟨rfl, -, -⟩ := hv; obtain ⟨b, off, h1, h2, h3⟩ := hc (by have := (List.getElem?_eq_some_iff.1 ht).1; omega)
  exact ⟨b, off, h1, h2, h3 i t ht⟩))
 have HN := hid' hn'; have HFI := hid' HFI; have HRES := hid' hres
 have hni : (n : Int) ≤ 1000 := by omega
 have hcn : (n : Int) ≤ cap := by omega
 clear HT htk hres hn' hn hcap; have A1 := A.alloc (hpBox hp); generalize hg : w.heap.size = bh at *; go_enter Tryz.func40, Tryz.ntmps40
 go_upto_region 1 with (fail)
 generalize hW : w.alloc _ = w1 at *; clear hW hg A
 (try clear Rh); (try clear yh); (try clear Zh)
 have Rh := cells_of (A1.box _ m0); have yh := blk_lt (A1.box _ m0)
 (try simp only at Rh yh)
 go_upto_region 3 with (fail)
 clear Rh yh; have A2 := A1.alloc (Obj.cells #[.slice none 0 0] 44); generalize hg1 : w1.heap.size = g0 at *; have A3 := A2.alloc (lsBox (.slice (some ⟨g0, 0, none⟩) 1 1)); generalize hg2 : (w1.alloc _).heap.size = bl at *
 go_upto_region 4 with (fail)
 generalize hW : ((w1.alloc _).alloc _) = w3 at *; clear hW hg1 hg2 A1 A2; have A4 := A3.alloc (bgBox (.slice none 0 0)); generalize hg : w3.heap.size = bb at *
 go_upto_region 7 with (fail)
 generalize hW : w3.alloc _ = w4 at *; clear hW hg A3
 have S0 : BAt w0 w4 ((hp, L0) :: M) K hp bh bl bb [[]] [] :=
  ⟨[], [.slice none 0 0], [(g0, Obj.cells #[.slice none 0 0] 44)], .slice (some ⟨g0, 0, none⟩) 1 1, [], .slice none 0 0, .cons (R := []) (.inl ⟨rfl, rfl, rfl, rfl⟩) .nil, .inr ⟨g0, 1, _, rfl, rfl, by decide, by decide, rfl, rfl, rfl⟩, .inl ⟨rfl, rfl, rfl, rfl⟩, A4.perm (by
   classical refine List.perm_iff_count.2 fun q => ?_
   simp only [List.count_append, List.count_cons, List.count_nil]
   omega)⟩
 clear A4; go_wp2_with fail
 go_loopw [28, 8] (fun iv ev wr => ∃ (i : Nat) (L : List C) (ls : List (List O)) (bg : List Int), i ≤ n ∧ iv = .int .i64 i ∧ ev = .int .i64 0 ∧ runO F 0 (toks.take i) (L0, [[]], []) = .inl (L, ls, bg) ∧ OkO i ls bg ∧ BAt w0 wr ((hp, L) :: M) K hp bh bl bb ls bg) (fun iv _ _ => n - (intOf iv).toNat)
 case atStart => exact ⟨0, L0, [[]], [], Nat.zero_le _, rfl, rfl, rfl, ⟨rfl, by simp, by simp⟩, S0⟩
 case round =>
 obtain ⟨i, L, ls, bg, hi, rfl, rfl, hrun, hok, S⟩ := hrel; clear S0
 by_cases hlt : i < n
 · have dl : (i : Int) < n := by omega
   have di : (0 : Int) ≤ i := by omega
   have hi9 : i ≤ 1000 := by omega
   have vi := IntWalk.i64_in ((i : Int) + 1) (by omega); obtain ⟨t, ht, hts⟩ := HTK.out i hlt; obtain ⟨b, off, rfl, hbl, htc⟩ := HTC.out wr _ [] S.base i t ht; have HER := hid' (fun L1 a e1 (hs : stepO F i t (L, ls, bg) = .inr (L1, a, e1)) => (HRES.out).symm.trans (objsB_err hrun ht hs)); have HOK := hid' (fun s' (hs : stepO F i t (L, ls, bg) = .inl s') => runO_next hrun ht hs); have HFN := hid' (HFI.out i L ls bg t hrun ht); have HMY := hid' (fun W => mayTok_any t hts.1 hts.2.1 hts.2.2 W); have HKO := hid' hok; obtain ⟨tk, tv, ts, tp⟩ := t; obtain ⟨q0, q1, q2, q3⟩ := htc; simp only at q0 q1 q2 q3; clear hrun ht hts hok
   go_upto_region 10 with (fail)
   have S1 := S.alloc (Obj.cells #[.int .i64 tk, .int .i64 tv, .string ts, .int .i64 tp] 73); generalize hg : wr.heap.size = b14 at *; generalize hW : wr.alloc _ = w2 at *; clear hW hg S hbl q0 q1 q2 q3; have S2 := S1.alloc (Obj.cells #[.int .i64 0, .bool false, .int .i64 0, .int .i64 0, .int .i64 0, .string ⟨#[]⟩] 49); generalize hg : w2.heap.size = b15 at *
   go_upto_region 12 with (fail)
   generalize hW : w2.alloc _ = w3 at *; clear hW hg S1; have Rt := cells_of (S2.box _ m1); have yt := blk_lt (S2.box _ m1); simp only at Rt yt; go_wp2_with fail
   refine (HMY.out _).mono ?_; rintro r w4 ⟨rfl, X4⟩; have S3 := S2.pure X4; clear S2 Rt yt X4 HMY
   obtain ⟨KK, hKK⟩ : ∃ KK, KK = (b15, Obj.cells #[.int .i64 0, .bool false, .int .i64 0, .int .i64 0, .int .i64 0, .string ⟨#[]⟩] 49) :: (b14, Obj.cells #[.int .i64 tk, .int .i64 tv, .string ts, .int .i64 tp] 73) :: K := ⟨_, rfl⟩
   have Rt := cells_of (S3.box (b14, Obj.cells #[.int .i64 tk, .int .i64 tv, .string ts, .int .i64 tp] 73) m1); have yt := blk_lt (S3.box (b14, Obj.cells #[.int .i64 tk, .int .i64 tv, .string ts, .int .i64 tp] 73) m1); simp only at Rt yt
   cases hmay : mayT ⟨tk, tv, ts, tp⟩
   · have hr := HER.out _ _ _ (step_may hmay); simp only [Prod.mk.injEq] at hr; obtain ⟨rfl, rfl, rfl, rfl⟩ := hr; go_wp2_with fail
     go_ret3; exact ⟨_, [], rfl, .inl ⟨rfl, rfl, rfl, rfl⟩, (S3.keep ((List.sublist_cons_self _ _).trans (List.sublist_cons_self _ _))).base⟩
   · by_cases k7 : tk = 7
     · subst k7; obtain ⟨aB0, cB0, hbb⟩ := S3.began; have Rb := cells_of hbb; have yb := blk_lt hbb
       obtain ⟨m, hm⟩ : ∃ m, bg.length = m := ⟨_, rfl⟩
       rw [hm] at Rb
       by_cases h20 : m = 20
       · have hmz : (m : Int) = 20 := by omega
         have hr := HER.out _ _ _ (step_full hmay (hm.trans h20)); simp only [Prod.mk.injEq] at hr; obtain ⟨rfl, rfl, rfl, rfl⟩ := hr; go_wp2_with fail
         go_ret3; exact ⟨_, [], rfl, .inl ⟨rfl, rfl, rfl, rfl⟩, (S3.keep ((List.sublist_cons_self _ _).trans (List.sublist_cons_self _ _))).base⟩
       · have hmz : ¬ (m : Int) = 20 := by omega
         go_upto_region 17 with (fail)
         clear Rb yb hbb Rt yt; have HST := hid' (HOK.out _ (step_open hmay (fun h => h20 (hm.symm.trans h)))); have HK2 := hid' (HKO.out.opens (fun h => h20 (hm.symm.trans h)) (i : Int)); clear HFN HER HOK hmay; obtain ⟨RR, vs, RL, vl, RB, vb, hrows, hRL, hRB, A5⟩ := S3
         obtain ⟨q, hq⟩ : ∃ q, ls.length = q := ⟨_, rfl⟩
         rw [hq] at hRL; rw [hm] at hRB; obtain ⟨aL, cL, rfl, hcL⟩ := rowG_slice hRL; obtain ⟨aB, cB, rfl, hcB⟩ := rowG_slice hRB
         have hq9 : q ≤ 1000 := by have := HKO.out.1; have := HKO.out.2.1; omega
         have hm9 : m ≤ 1000 := by have := HKO.out.2.1; omega
         obtain ⟨KR, hKR⟩ : ∃ KR, KR = RR ++ (bh, hpBox hp) :: (b15, Obj.cells #[.int .i64 0, .bool false, .int .i64 0, .int .i64 0, .int .i64 0, .string ⟨#[]⟩] 49) :: (b14, Obj.cells #[.int .i64 7, .int .i64 tv, .string ts, .int .i64 tp] 73) :: K := ⟨_, rfl⟩
         obtain ⟨MM, hMM⟩ : ∃ MM, MM = (hp, L) :: M := ⟨_, rfl⟩
         rw [← hMM] at A5
         have A6 : Ats w0 w4 MM (RL ++ (RB ++ ((bl, lsBox (.slice aL q cL)) :: (bb, bgBox (.slice aB m cB)) :: KR))) := A5.perm (by
          rw [hKR]
          classical refine List.perm_iff_count.2 fun z => ?_
          simp only [List.count_append, List.count_cons]
          omega)
         have hne : bl ≠ bb := by
          have A' := A6.keep ((List.sublist_append_right RB _).trans (List.sublist_append_right RL _)); obtain ⟨h, h1, H, X0, D, F', k, nd⟩ := A'; rw [List.map_cons, List.nodup_cons] at nd; exact fun e => nd.1 (by rw [e]; exact List.mem_map.2 ⟨_, m0, rfl⟩)
         have hne' : bb ≠ bl := fun e => hne e.symm
         have HFIN := hid' (fun (W : World) (E : List (Nat × Obj)) (RL' RB' : List (Nat × Obj)) (gL capL gB capB : Nat) (h1 : RowG 44 1 RL' (.slice (some ⟨gL, 0, none⟩) (q + 1) capL) (q + 1) (vs.reverse ++ [.slice none 0 0])) (h2 : RowG 3 1 RB' (.slice (some ⟨gB, 0, none⟩) (m + 1) capB) (m + 1) (bg.reverse.map (.int .i64 ·) ++ [.int .i64 i]))
          (A : Ats w0 W MM (RL' ++ (RB' ++ (E ++ ((bl, lsBox (.slice aL q cL)) :: (bb, bgBox (.slice aB m cB)) :: KR))))) => (show BAt w0 ((W.setCell ⟨bl, 0, none⟩ (.slice (some ⟨gL, 0, none⟩) (q + 1) capL)).setCell ⟨bb, 0, none⟩ (.slice (some ⟨gB, 0, none⟩) (m + 1) capB)) ((hp, L) :: M) K hp bh bl bb ([] :: ls) ((i : Int) :: bg) by
          have A1 := A.perm (K' := (bl, lsBox (.slice aL q cL)) :: (bb, bgBox (.slice aB m cB)) :: (RL' ++ (RB' ++ (E ++ KR)))) (by
           classical refine List.perm_iff_count.2 fun z => ?_
           simp only [List.count_append, List.count_cons]
           omega)
          have A2 := ((A1.put 0 (.slice (some ⟨gL, 0, none⟩) (q + 1) capL)).perm (List.Perm.swap _ _ _)).put 0 (.slice (some ⟨gB, 0, none⟩) (m + 1) capB); have A3 : Ats w0 ((W.setCell ⟨bl, 0, none⟩ (.slice (some ⟨gL, 0, none⟩) (q + 1) capL)).setCell ⟨bb, 0, none⟩ (.slice (some ⟨gB, 0, none⟩) (m + 1) capB)) MM ((bb, bgBox (.slice (some ⟨gB, 0, none⟩) (m + 1) capB)) :: (bl, lsBox (.slice (some ⟨gL, 0, none⟩) (q + 1) capL)) :: (RL' ++ (RB' ++ (E ++ KR)))) := A2; refine ⟨RR, .slice none 0 0 :: vs, RL', .slice (some ⟨gL, 0, none⟩) (q + 1) capL, RB', .slice (some ⟨gB, 0, none⟩) (m + 1) capB, .cons (R := []) (.inl ⟨rfl, rfl, rfl, rfl⟩) hrows, ?_, ?_, ?_⟩
          · rw [List.length_cons, hq, List.reverse_cons]; exact h1
          · rw [List.length_cons, hm, List.reverse_cons, List.map_append]; exact h2
          · rw [← hMM]
            refine (A3.perm (K' := E ++ ((b15, Obj.cells #[.int .i64 0, .bool false, .int .i64 0, .int .i64 0, .int .i64 0, .string ⟨#[]⟩] 49) :: (b14, Obj.cells #[.int .i64 7, .int .i64 tv, .string ts, .int .i64 tp] 73) :: (RR ++ (RL' ++ (RB' ++ (bl, lsBox (.slice (some ⟨gL, 0, none⟩) (q + 1) capL)) :: (bb, bgBox (.slice (some ⟨gB, 0, none⟩) (m + 1) capB)) :: (bh, hpBox hp) :: K))))) (by
             rw [hKR]
             classical refine List.perm_iff_count.2 fun z => ?_
             simp only [List.count_append, List.count_cons]
             omega)).keep ?_
            exact ((List.sublist_cons_self _ _).trans (List.sublist_cons_self _ _)).trans (List.sublist_append_right _ _)))
         have hS1 : AnyB w0 MM ((bl, lsBox (.slice aL q cL)) :: (bb, bgBox (.slice aB m cB)) :: KR) w4 := A6.keep ((List.sublist_append_right RB _).trans (List.sublist_append_right RL _))
         replace A6 := A6.drew
         have HRL := hid' hRL; have HRB := hid' hRB; have QL := AnyB.cells (w0 := w0) (M := MM) (KL := (bl, lsBox (.slice aL q cL)) :: (bb, bgBox (.slice aB m cB)) :: KR) (List.mem_cons_self ..); obtain ⟨iL, hL, hL0, hL1, hL2⟩ := info_parts Tryz.infoRowsB; obtain ⟨iI, hI, hI0, hI1, hI2⟩ := info_parts Tryz.infoIntB; clear A5 hrows hRL hRB hq hcL hcB hmz h20; have HKR := hid' hKR; have HMM := hid' hMM; clear hKR hMM hm; refine wp_region_late (late := [7, 8]) (S := fun W' => AnyB w0 MM ((bl, lsBox (.slice aL q cL)) :: (bb, bgBox (.slice aB m cB)) :: KR) W') (by kernel_rfl) hS1.drew (fun hHeld => ?_); generalize w4.drew = w6 at *; clear hS1; refine wpAnyL_take (i := 0) (oi := { dst := some 50, op := _, type := _, pos := _, after := _, guard := _ }) (v := ?_) rfl (by kernel_rfl) (by kernel_rfl) (by kernel_rfl) (by kernel_rfl) (by kernel_rfl) (by kernel_rfl) (fun _ _ _ h => h) (Or.inl ⟨by rfl, ?_⟩) (by assumption) ?_; rotate_left
         · intro w hSw; go_simp; try with_reducible rfl
         try simp only [Act.put, List.setIfInBounds_toArray, List.set_cons_zero, List.set_cons_succ]
         refine wpAnyL_pure (i := 4) (oi := { dst := some 54, op := _, type := _, pos := _, after := _, guard := _ }) (v := ?_) rfl (by kernel_rfl) (by kernel_rfl) (by kernel_rfl) (by kernel_rfl) (fun _ _ _ h => h) (Or.inl ⟨by rfl, ?_⟩) (by assumption) ?_; rotate_left
         · intro w hSw; go_simp; try with_reducible rfl
         try simp only [Act.put, List.setIfInBounds_toArray, List.set_cons_zero, List.set_cons_succ]
         refine wpAnyL_ready (rs := [1, 3, 5]) (by kernel_rfl) (by simp) ?_; refine AllReadyL.cons (o := { dst := some 51, op := _, type := _, pos := _, after := _, guard := _ }) rfl (fun K' hK' => ?_) (AllReadyL.cons (o := { dst := some 53, op := _, type := _, pos := _, after := _, guard := _ }) rfl (fun K' hK' => ?_) (AllReadyL.cons (o := { dst := some 55, op := _, type := _, pos := _, after := _, guard := _ }) rfl (fun K' hK' => ?_) AllReadyL.nil))
         focus
          go_simp
          have A7 := (A6.alloc (Obj.cells #[.slice none 0 0] 44)).perm permB; have hk7 : AnyB w0 MM ((bl, lsBox (.slice aL q cL)) :: (bb, bgBox (.slice aB m cB)) :: KR) _ := A7.keep ((((List.Sublist.refl _).trans (List.sublist_cons_self _ _)).trans (List.sublist_append_right _ _)).trans (List.sublist_append_right _ _)); refine hK'.out _ _ hk7 (fun _ => ?_); clear hK' K'
          try simp only [Act.put, List.setIfInBounds_toArray, List.set_cons_zero, List.set_cons_succ]
          generalize w6.heap.size = a1 at *; generalize w6.alloc _ = w7 at *; refine wpAnyL_ready (rs := [2, 3, 5]) (by kernel_rfl) (by simp) ?_; refine AllReadyL.cons (o := { dst := some 52, op := _, type := _, pos := _, after := _, guard := _ }) rfl (fun K' hK' => ?_) (AllReadyL.cons (o := { dst := some 53, op := _, type := _, pos := _, after := _, guard := _ }) rfl (fun K' hK' => ?_) (AllReadyL.cons (o := { dst := some 55, op := _, type := _, pos := _, after := _, guard := _ }) rfl (fun K' hK' => ?_) AllReadyL.nil))
          focus
           refine stepB_app rfl (.tmp 50) (.tmp 51) 137 rfl 44 iL (.slice none 0 0) 1 24 Tryz.underRowsB hL hL0 hL1 hL2 rfl (by decide) RL _ (.slice aL q cL) q vs.reverse A7 HRL.out rfl ⟨a1, 0, none⟩ 1 1 [.slice none 0 0] rfl rfl (newsB_all (T := 44) (fz := (0, 0)) (A7.box _ ((List.mem_append_right _ (List.mem_append_right _ m0))))) (fun u hu => by rw [List.mem_singleton.1 hu]; rfl) (by decide) (by unfold maxLen; omega) (by omega) ?_; intro gL capL w8 R8 hRL2 A8; have hk8 : AnyB w0 MM ((bl, lsBox (.slice aL q cL)) :: (bb, bgBox (.slice aB m cB)) :: KR) _ := A8.keep ((((List.Sublist.refl _).trans (List.sublist_cons_self _ _)).trans (List.sublist_append_right _ _)).trans (List.sublist_append_right _ _)); refine hK'.out _ _ hk8 (fun _ => ?_); clear hK' K'
           try simp only [Act.put, List.setIfInBounds_toArray, List.set_cons_zero, List.set_cons_succ]
           refine wpAnyL_ready (rs := [3, 5]) (by kernel_rfl) (by simp) ?_; refine AllReadyL.cons (o := { dst := some 53, op := _, type := _, pos := _, after := _, guard := _ }) rfl (fun K' hK' => ?_) (AllReadyL.cons (o := { dst := some 55, op := _, type := _, pos := _, after := _, guard := _ }) rfl (fun K' hK' => ?_) AllReadyL.nil)
           focus
            have Rb := cells_of (A8.box _ ((List.mem_append_right _ (List.mem_append_right _ (List.mem_cons_of_mem _ m1))))); simp only at Rb; go_simp
            refine hK'.out _ _ hk8 (fun _ => ?_); clear hK' K' Rb
            try simp only [Act.put, List.setIfInBounds_toArray, List.set_cons_zero, List.set_cons_succ]
            refine wpAnyL_ready (rs := [5]) (by kernel_rfl) (by simp) ?_; refine AllReadyL.cons (o := { dst := some 55, op := _, type := _, pos := _, after := _, guard := _ }) rfl (fun K' hK' => ?_) AllReadyL.nil; go_simp
            have A9 := (A8.alloc (Obj.cells #[.int .i64 i] 3)).perm permB; have hk9 : AnyB w0 MM ((bl, lsBox (.slice aL q cL)) :: (bb, bgBox (.slice aB m cB)) :: KR) _ := A9.keep (((((List.Sublist.refl _).trans (List.sublist_cons_self _ _)).trans (List.sublist_cons_self _ _)).trans (List.sublist_append_right _ _)).trans (List.sublist_append_right _ _)); refine hK'.out _ _ hk9 (fun _ => ?_); clear hK' K'
            try simp only [Act.put, List.setIfInBounds_toArray, List.set_cons_zero, List.set_cons_succ]
            generalize w8.heap.size = a5 at *; generalize w8.alloc _ = w9 at *
           rotate_left 1
           focus
            go_simp
            have A9 := (A8.alloc (Obj.cells #[.int .i64 i] 3)).perm permB; have hk9 : AnyB w0 MM ((bl, lsBox (.slice aL q cL)) :: (bb, bgBox (.slice aB m cB)) :: KR) _ := A9.keep (((((List.Sublist.refl _).trans (List.sublist_cons_self _ _)).trans (List.sublist_cons_self _ _)).trans (List.sublist_append_right _ _)).trans (List.sublist_append_right _ _)); refine hK'.out _ _ hk9 (fun _ => ?_); clear hK' K'
            try simp only [Act.put, List.setIfInBounds_toArray, List.set_cons_zero, List.set_cons_succ]
            generalize w8.heap.size = a5 at *; generalize w8.alloc _ = w9 at *; refine wpAnyL_ready (rs := [3]) (by kernel_rfl) (by simp) ?_; refine AllReadyL.cons (o := { dst := some 53, op := _, type := _, pos := _, after := _, guard := _ }) rfl (fun K' hK' => ?_) AllReadyL.nil; have Rb := cells_of (A9.box _ ((List.mem_append_right _ (List.mem_append_right _ (List.mem_cons_of_mem _ (List.mem_cons_of_mem _ m1)))))); simp only at Rb; go_simp
            refine hK'.out _ _ hk9 (fun _ => ?_); clear hK' K' Rb
            try simp only [Act.put, List.setIfInBounds_toArray, List.set_cons_zero, List.set_cons_succ]
           rotate_left 1
          rotate_left 2
          focus
           have Rb := cells_of (A7.box _ ((List.mem_append_right _ (List.mem_append_right _ (List.mem_cons_of_mem _ m1))))); simp only at Rb; go_simp
           refine hK'.out _ _ hk7 (fun _ => ?_); clear hK' K' Rb
           try simp only [Act.put, List.setIfInBounds_toArray, List.set_cons_zero, List.set_cons_succ]
           refine wpAnyL_ready (rs := [2, 5]) (by kernel_rfl) (by simp) ?_; refine AllReadyL.cons (o := { dst := some 52, op := _, type := _, pos := _, after := _, guard := _ }) rfl (fun K' hK' => ?_) (AllReadyL.cons (o := { dst := some 55, op := _, type := _, pos := _, after := _, guard := _ }) rfl (fun K' hK' => ?_) AllReadyL.nil)
           focus
            refine stepB_app rfl (.tmp 50) (.tmp 51) 137 rfl 44 iL (.slice none 0 0) 1 24 Tryz.underRowsB hL hL0 hL1 hL2 rfl (by decide) RL _ (.slice aL q cL) q vs.reverse A7 HRL.out rfl ⟨a1, 0, none⟩ 1 1 [.slice none 0 0] rfl rfl (newsB_all (T := 44) (fz := (0, 0)) (A7.box _ ((List.mem_append_right _ (List.mem_append_right _ m0))))) (fun u hu => by rw [List.mem_singleton.1 hu]; rfl) (by decide) (by unfold maxLen; omega) (by omega) ?_; intro gL capL w8 R8 hRL2 A8; have hk8 : AnyB w0 MM ((bl, lsBox (.slice aL q cL)) :: (bb, bgBox (.slice aB m cB)) :: KR) _ := A8.keep ((((List.Sublist.refl _).trans (List.sublist_cons_self _ _)).trans (List.sublist_append_right _ _)).trans (List.sublist_append_right _ _)); refine hK'.out _ _ hk8 (fun _ => ?_); clear hK' K'
            try simp only [Act.put, List.setIfInBounds_toArray, List.set_cons_zero, List.set_cons_succ]
            refine wpAnyL_ready (rs := [5]) (by kernel_rfl) (by simp) ?_; refine AllReadyL.cons (o := { dst := some 55, op := _, type := _, pos := _, after := _, guard := _ }) rfl (fun K' hK' => ?_) AllReadyL.nil; go_simp
            have A9 := (A8.alloc (Obj.cells #[.int .i64 i] 3)).perm permB; have hk9 : AnyB w0 MM ((bl, lsBox (.slice aL q cL)) :: (bb, bgBox (.slice aB m cB)) :: KR) _ := A9.keep (((((List.Sublist.refl _).trans (List.sublist_cons_self _ _)).trans (List.sublist_cons_self _ _)).trans (List.sublist_append_right _ _)).trans (List.sublist_append_right _ _)); refine hK'.out _ _ hk9 (fun _ => ?_); clear hK' K'
            try simp only [Act.put, List.setIfInBounds_toArray, List.set_cons_zero, List.set_cons_succ]
            generalize w8.heap.size = a5 at *; generalize w8.alloc _ = w9 at *
           rotate_left 1
           focus
            go_simp
            have A8 := (A7.alloc (Obj.cells #[.int .i64 i] 3)).perm permB; have hk8 : AnyB w0 MM ((bl, lsBox (.slice aL q cL)) :: (bb, bgBox (.slice aB m cB)) :: KR) _ := A8.keep (((((List.Sublist.refl _).trans (List.sublist_cons_self _ _)).trans (List.sublist_cons_self _ _)).trans (List.sublist_append_right _ _)).trans (List.sublist_append_right _ _)); refine hK'.out _ _ hk8 (fun _ => ?_); clear hK' K'
            try simp only [Act.put, List.setIfInBounds_toArray, List.set_cons_zero, List.set_cons_succ]
            generalize w7.heap.size = a5 at *; generalize w7.alloc _ = w8 at *; refine wpAnyL_ready (rs := [2]) (by kernel_rfl) (by simp) ?_; refine AllReadyL.cons (o := { dst := some 52, op := _, type := _, pos := _, after := _, guard := _ }) rfl (fun K' hK' => ?_) AllReadyL.nil; refine stepB_app rfl (.tmp 50) (.tmp 51) 137 rfl 44 iL (.slice none 0 0) 1 24 Tryz.underRowsB hL hL0 hL1 hL2 rfl (by decide) RL _ (.slice aL q cL) q vs.reverse A8 HRL.out rfl ⟨a1, 0, none⟩ 1 1 [.slice none 0 0] rfl rfl (newsB_all (T := 44) (fz := (0, 0)) (A8.box _ ((List.mem_append_right _ (List.mem_append_right _ (List.mem_cons_of_mem _ m0)))))) (fun u hu => by rw [List.mem_singleton.1 hu]; rfl) (by decide) (by unfold maxLen; omega) (by omega) ?_; intro gL capL w9 R9 hRL2 A9; have hk9 : AnyB w0 MM ((bl, lsBox (.slice aL q cL)) :: (bb, bgBox (.slice aB m cB)) :: KR) _ := A9.keep (((((List.Sublist.refl _).trans (List.sublist_cons_self _ _)).trans (List.sublist_cons_self _ _)).trans (List.sublist_append_right _ _)).trans (List.sublist_append_right _ _)); refine hK'.out _ _ hk9 (fun _ => ?_); clear hK' K'
            try simp only [Act.put, List.setIfInBounds_toArray, List.set_cons_zero, List.set_cons_succ]
           rotate_left 1
          rotate_left 2
          focus
           go_simp
           have A8 := (A7.alloc (Obj.cells #[.int .i64 i] 3)).perm permB; have hk8 : AnyB w0 MM ((bl, lsBox (.slice aL q cL)) :: (bb, bgBox (.slice aB m cB)) :: KR) _ := A8.keep (((((List.Sublist.refl _).trans (List.sublist_cons_self _ _)).trans (List.sublist_cons_self _ _)).trans (List.sublist_append_right _ _)).trans (List.sublist_append_right _ _)); refine hK'.out _ _ hk8 (fun _ => ?_); clear hK' K'
           try simp only [Act.put, List.setIfInBounds_toArray, List.set_cons_zero, List.set_cons_succ]
           generalize w7.heap.size = a5 at *; generalize w7.alloc _ = w8 at *; refine wpAnyL_ready (rs := [2, 3]) (by kernel_rfl) (by simp) ?_; refine AllReadyL.cons (o := { dst := some 52, op := _, type := _, pos := _, after := _, guard := _ }) rfl (fun K' hK' => ?_) (AllReadyL.cons (o := { dst := some 53, op := _, type := _, pos := _, after := _, guard := _ }) rfl (fun K' hK' => ?_) AllReadyL.nil)
           focus
            refine stepB_app rfl (.tmp 50) (.tmp 51) 137 rfl 44 iL (.slice none 0 0) 1 24 Tryz.underRowsB hL hL0 hL1 hL2 rfl (by decide) RL _ (.slice aL q cL) q vs.reverse A8 HRL.out rfl ⟨a1, 0, none⟩ 1 1 [.slice none 0 0] rfl rfl (newsB_all (T := 44) (fz := (0, 0)) (A8.box _ ((List.mem_append_right _ (List.mem_append_right _ (List.mem_cons_of_mem _ m0)))))) (fun u hu => by rw [List.mem_singleton.1 hu]; rfl) (by decide) (by unfold maxLen; omega) (by omega) ?_; intro gL capL w9 R9 hRL2 A9; have hk9 : AnyB w0 MM ((bl, lsBox (.slice aL q cL)) :: (bb, bgBox (.slice aB m cB)) :: KR) _ := A9.keep (((((List.Sublist.refl _).trans (List.sublist_cons_self _ _)).trans (List.sublist_cons_self _ _)).trans (List.sublist_append_right _ _)).trans (List.sublist_append_right _ _)); refine hK'.out _ _ hk9 (fun _ => ?_); clear hK' K'
            try simp only [Act.put, List.setIfInBounds_toArray, List.set_cons_zero, List.set_cons_succ]
            refine wpAnyL_ready (rs := [3]) (by kernel_rfl) (by simp) ?_; refine AllReadyL.cons (o := { dst := some 53, op := _, type := _, pos := _, after := _, guard := _ }) rfl (fun K' hK' => ?_) AllReadyL.nil; have Rb := cells_of (A9.box _ ((List.mem_append_right _ (List.mem_append_right _ (List.mem_cons_of_mem _ (List.mem_cons_of_mem _ m1)))))); simp only at Rb; go_simp
            refine hK'.out _ _ hk9 (fun _ => ?_); clear hK' K' Rb
            try simp only [Act.put, List.setIfInBounds_toArray, List.set_cons_zero, List.set_cons_succ]
           rotate_left 1
           focus
            have Rb := cells_of (A8.box _ ((List.mem_append_right _ (List.mem_append_right _ (List.mem_cons_of_mem _ (List.mem_cons_of_mem _ m1)))))); simp only at Rb; go_simp
            refine hK'.out _ _ hk8 (fun _ => ?_); clear hK' K' Rb
            try simp only [Act.put, List.setIfInBounds_toArray, List.set_cons_zero, List.set_cons_succ]
            refine wpAnyL_ready (rs := [2]) (by kernel_rfl) (by simp) ?_; refine AllReadyL.cons (o := { dst := some 52, op := _, type := _, pos := _, after := _, guard := _ }) rfl (fun K' hK' => ?_) AllReadyL.nil; refine stepB_app rfl (.tmp 50) (.tmp 51) 137 rfl 44 iL (.slice none 0 0) 1 24 Tryz.underRowsB hL hL0 hL1 hL2 rfl (by decide) RL _ (.slice aL q cL) q vs.reverse A8 HRL.out rfl ⟨a1, 0, none⟩ 1 1 [.slice none 0 0] rfl rfl (newsB_all (T := 44) (fz := (0, 0)) (A8.box _ ((List.mem_append_right _ (List.mem_append_right _ (List.mem_cons_of_mem _ m0)))))) (fun u hu => by rw [List.mem_singleton.1 hu]; rfl) (by decide) (by unfold maxLen; omega) (by omega) ?_; intro gL capL w9 R9 hRL2 A9; have hk9 : AnyB w0 MM ((bl, lsBox (.slice aL q cL)) :: (bb, bgBox (.slice aB m cB)) :: KR) _ := A9.keep (((((List.Sublist.refl _).trans (List.sublist_cons_self _ _)).trans (List.sublist_cons_self _ _)).trans (List.sublist_append_right _ _)).trans (List.sublist_append_right _ _)); refine hK'.out _ _ hk9 (fun _ => ?_); clear hK' K'
            try simp only [Act.put, List.setIfInBounds_toArray, List.set_cons_zero, List.set_cons_succ]
           rotate_left 1
          rotate_left 2
         rotate_left 6
         focus
          have Rb := cells_of (A6.box _ ((List.mem_append_right _ (List.mem_append_right _ m1)))); simp only at Rb; go_simp
          refine hK'.out _ _ hHeld (fun _ => ?_); clear hK' K' Rb
          try simp only [Act.put, List.setIfInBounds_toArray, List.set_cons_zero, List.set_cons_succ]
          refine wpAnyL_ready (rs := [1, 5]) (by kernel_rfl) (by simp) ?_; refine AllReadyL.cons (o := { dst := some 51, op := _, type := _, pos := _, after := _, guard := _ }) rfl (fun K' hK' => ?_) (AllReadyL.cons (o := { dst := some 55, op := _, type := _, pos := _, after := _, guard := _ }) rfl (fun K' hK' => ?_) AllReadyL.nil)
          focus
           go_simp
           have A7 := (A6.alloc (Obj.cells #[.slice none 0 0] 44)).perm permB; have hk7 : AnyB w0 MM ((bl, lsBox (.slice aL q cL)) :: (bb, bgBox (.slice aB m cB)) :: KR) _ := A7.keep ((((List.Sublist.refl _).trans (List.sublist_cons_self _ _)).trans (List.sublist_append_right _ _)).trans (List.sublist_append_right _ _)); refine hK'.out _ _ hk7 (fun _ => ?_); clear hK' K'
           try simp only [Act.put, List.setIfInBounds_toArray, List.set_cons_zero, List.set_cons_succ]
           generalize w6.heap.size = a1 at *; generalize w6.alloc _ = w7 at *; refine wpAnyL_ready (rs := [2, 5]) (by kernel_rfl) (by simp) ?_; refine AllReadyL.cons (o := { dst := some 52, op := _, type := _, pos := _, after := _, guard := _ }) rfl (fun K' hK' => ?_) (AllReadyL.cons (o := { dst := some 55, op := _, type := _, pos := _, after := _, guard := _ }) rfl (fun K' hK' => ?_) AllReadyL.nil)
           focus
            refine stepB_app rfl (.tmp 50) (.tmp 51) 137 rfl 44 iL (.slice none 0 0) 1 24 Tryz.underRowsB hL hL0 hL1 hL2 rfl (by decide) RL _ (.slice aL q cL) q vs.reverse A7 HRL.out rfl ⟨a1, 0, none⟩ 1 1 [.slice none 0 0] rfl rfl (newsB_all (T := 44) (fz := (0, 0)) (A7.box _ ((List.mem_append_right _ (List.mem_append_right _ m0))))) (fun u hu => by rw [List.mem_singleton.1 hu]; rfl) (by decide) (by unfold maxLen; omega) (by omega) ?_; intro gL capL w8 R8 hRL2 A8; have hk8 : AnyB w0 MM ((bl, lsBox (.slice aL q cL)) :: (bb, bgBox (.slice aB m cB)) :: KR) _ := A8.keep ((((List.Sublist.refl _).trans (List.sublist_cons_self _ _)).trans (List.sublist_append_right _ _)).trans (List.sublist_append_right _ _)); refine hK'.out _ _ hk8 (fun _ => ?_); clear hK' K'
            try simp only [Act.put, List.setIfInBounds_toArray, List.set_cons_zero, List.set_cons_succ]
            refine wpAnyL_ready (rs := [5]) (by kernel_rfl) (by simp) ?_; refine AllReadyL.cons (o := { dst := some 55, op := _, type := _, pos := _, after := _, guard := _ }) rfl (fun K' hK' => ?_) AllReadyL.nil; go_simp
            have A9 := (A8.alloc (Obj.cells #[.int .i64 i] 3)).perm permB; have hk9 : AnyB w0 MM ((bl, lsBox (.slice aL q cL)) :: (bb, bgBox (.slice aB m cB)) :: KR) _ := A9.keep (((((List.Sublist.refl _).trans (List.sublist_cons_self _ _)).trans (List.sublist_cons_self _ _)).trans (List.sublist_append_right _ _)).trans (List.sublist_append_right _ _)); refine hK'.out _ _ hk9 (fun _ => ?_); clear hK' K'
            try simp only [Act.put, List.setIfInBounds_toArray, List.set_cons_zero, List.set_cons_succ]
            generalize w8.heap.size = a5 at *; generalize w8.alloc _ = w9 at *
           rotate_left 1
           focus
            go_simp
            have A8 := (A7.alloc (Obj.cells #[.int .i64 i] 3)).perm permB; have hk8 : AnyB w0 MM ((bl, lsBox (.slice aL q cL)) :: (bb, bgBox (.slice aB m cB)) :: KR) _ := A8.keep (((((List.Sublist.refl _).trans (List.sublist_cons_self _ _)).trans (List.sublist_cons_self _ _)).trans (List.sublist_append_right _ _)).trans (List.sublist_append_right _ _)); refine hK'.out _ _ hk8 (fun _ => ?_); clear hK' K'
            try simp only [Act.put, List.setIfInBounds_toArray, List.set_cons_zero, List.set_cons_succ]
            generalize w7.heap.size = a5 at *; generalize w7.alloc _ = w8 at *; refine wpAnyL_ready (rs := [2]) (by kernel_rfl) (by simp) ?_; refine AllReadyL.cons (o := { dst := some 52, op := _, type := _, pos := _, after := _, guard := _ }) rfl (fun K' hK' => ?_) AllReadyL.nil; refine stepB_app rfl (.tmp 50) (.tmp 51) 137 rfl 44 iL (.slice none 0 0) 1 24 Tryz.underRowsB hL hL0 hL1 hL2 rfl (by decide) RL _ (.slice aL q cL) q vs.reverse A8 HRL.out rfl ⟨a1, 0, none⟩ 1 1 [.slice none 0 0] rfl rfl (newsB_all (T := 44) (fz := (0, 0)) (A8.box _ ((List.mem_append_right _ (List.mem_append_right _ (List.mem_cons_of_mem _ m0)))))) (fun u hu => by rw [List.mem_singleton.1 hu]; rfl) (by decide) (by unfold maxLen; omega) (by omega) ?_; intro gL capL w9 R9 hRL2 A9; have hk9 : AnyB w0 MM ((bl, lsBox (.slice aL q cL)) :: (bb, bgBox (.slice aB m cB)) :: KR) _ := A9.keep (((((List.Sublist.refl _).trans (List.sublist_cons_self _ _)).trans (List.sublist_cons_self _ _)).trans (List.sublist_append_right _ _)).trans (List.sublist_append_right _ _)); refine hK'.out _ _ hk9 (fun _ => ?_); clear hK' K'
            try simp only [Act.put, List.setIfInBounds_toArray, List.set_cons_zero, List.set_cons_succ]
           rotate_left 1
          rotate_left 2
          focus
           go_simp
           have A7 := (A6.alloc (Obj.cells #[.int .i64 i] 3)).perm permB; have hk7 : AnyB w0 MM ((bl, lsBox (.slice aL q cL)) :: (bb, bgBox (.slice aB m cB)) :: KR) _ := A7.keep ((((List.Sublist.refl _).trans (List.sublist_cons_self _ _)).trans (List.sublist_append_right _ _)).trans (List.sublist_append_right _ _)); refine hK'.out _ _ hk7 (fun _ => ?_); clear hK' K'
           try simp only [Act.put, List.setIfInBounds_toArray, List.set_cons_zero, List.set_cons_succ]
           generalize w6.heap.size = a5 at *; generalize w6.alloc _ = w7 at *; refine wpAnyL_ready (rs := [1]) (by kernel_rfl) (by simp) ?_; refine AllReadyL.cons (o := { dst := some 51, op := _, type := _, pos := _, after := _, guard := _ }) rfl (fun K' hK' => ?_) AllReadyL.nil; go_simp
           have A8 := (A7.alloc (Obj.cells #[.slice none 0 0] 44)).perm permB; have hk8 : AnyB w0 MM ((bl, lsBox (.slice aL q cL)) :: (bb, bgBox (.slice aB m cB)) :: KR) _ := A8.keep (((((List.Sublist.refl _).trans (List.sublist_cons_self _ _)).trans (List.sublist_cons_self _ _)).trans (List.sublist_append_right _ _)).trans (List.sublist_append_right _ _)); refine hK'.out _ _ hk8 (fun _ => ?_); clear hK' K'
           try simp only [Act.put, List.setIfInBounds_toArray, List.set_cons_zero, List.set_cons_succ]
           generalize w7.heap.size = a1 at *; generalize w7.alloc _ = w8 at *; refine wpAnyL_ready (rs := [2]) (by kernel_rfl) (by simp) ?_; refine AllReadyL.cons (o := { dst := some 52, op := _, type := _, pos := _, after := _, guard := _ }) rfl (fun K' hK' => ?_) AllReadyL.nil; refine stepB_app rfl (.tmp 50) (.tmp 51) 137 rfl 44 iL (.slice none 0 0) 1 24 Tryz.underRowsB hL hL0 hL1 hL2 rfl (by decide) RL _ (.slice aL q cL) q vs.reverse A8 HRL.out rfl ⟨a1, 0, none⟩ 1 1 [.slice none 0 0] rfl rfl (newsB_all (T := 44) (fz := (0, 0)) (A8.box _ ((List.mem_append_right _ (List.mem_append_right _ m0))))) (fun u hu => by rw [List.mem_singleton.1 hu]; rfl) (by decide) (by unfold maxLen; omega) (by omega) ?_; intro gL capL w9 R9 hRL2 A9; have hk9 : AnyB w0 MM ((bl, lsBox (.slice aL q cL)) :: (bb, bgBox (.slice aB m cB)) :: KR) _ := A9.keep (((((List.Sublist.refl _).trans (List.sublist_cons_self _ _)).trans (List.sublist_cons_self _ _)).trans (List.sublist_append_right _ _)).trans (List.sublist_append_right _ _)); refine hK'.out _ _ hk9 (fun _ => ?_); clear hK' K'
           try simp only [Act.put, List.setIfInBounds_toArray, List.set_cons_zero, List.set_cons_succ]
          rotate_left 1
         rotate_left 3
         focus
          go_simp
          have A7 := (A6.alloc (Obj.cells #[.int .i64 i] 3)).perm permB; have hk7 : AnyB w0 MM ((bl, lsBox (.slice aL q cL)) :: (bb, bgBox (.slice aB m cB)) :: KR) _ := A7.keep ((((List.Sublist.refl _).trans (List.sublist_cons_self _ _)).trans (List.sublist_append_right _ _)).trans (List.sublist_append_right _ _)); refine hK'.out _ _ hk7 (fun _ => ?_); clear hK' K'
          try simp only [Act.put, List.setIfInBounds_toArray, List.set_cons_zero, List.set_cons_succ]
          generalize w6.heap.size = a5 at *; generalize w6.alloc _ = w7 at *; refine wpAnyL_ready (rs := [1, 3]) (by kernel_rfl) (by simp) ?_; refine AllReadyL.cons (o := { dst := some 51, op := _, type := _, pos := _, after := _, guard := _ }) rfl (fun K' hK' => ?_) (AllReadyL.cons (o := { dst := some 53, op := _, type := _, pos := _, after := _, guard := _ }) rfl (fun K' hK' => ?_) AllReadyL.nil)
          focus
           go_simp
           have A8 := (A7.alloc (Obj.cells #[.slice none 0 0] 44)).perm permB; have hk8 : AnyB w0 MM ((bl, lsBox (.slice aL q cL)) :: (bb, bgBox (.slice aB m cB)) :: KR) _ := A8.keep (((((List.Sublist.refl _).trans (List.sublist_cons_self _ _)).trans (List.sublist_cons_self _ _)).trans (List.sublist_append_right _ _)).trans (List.sublist_append_right _ _)); refine hK'.out _ _ hk8 (fun _ => ?_); clear hK' K'
           try simp only [Act.put, List.setIfInBounds_toArray, List.set_cons_zero, List.set_cons_succ]
           generalize w7.heap.size = a1 at *; generalize w7.alloc _ = w8 at *; refine wpAnyL_ready (rs := [2, 3]) (by kernel_rfl) (by simp) ?_; refine AllReadyL.cons (o := { dst := some 52, op := _, type := _, pos := _, after := _, guard := _ }) rfl (fun K' hK' => ?_) (AllReadyL.cons (o := { dst := some 53, op := _, type := _, pos := _, after := _, guard := _ }) rfl (fun K' hK' => ?_) AllReadyL.nil)
           focus
            refine stepB_app rfl (.tmp 50) (.tmp 51) 137 rfl 44 iL (.slice none 0 0) 1 24 Tryz.underRowsB hL hL0 hL1 hL2 rfl (by decide) RL _ (.slice aL q cL) q vs.reverse A8 HRL.out rfl ⟨a1, 0, none⟩ 1 1 [.slice none 0 0] rfl rfl (newsB_all (T := 44) (fz := (0, 0)) (A8.box _ ((List.mem_append_right _ (List.mem_append_right _ m0))))) (fun u hu => by rw [List.mem_singleton.1 hu]; rfl) (by decide) (by unfold maxLen; omega) (by omega) ?_; intro gL capL w9 R9 hRL2 A9; have hk9 : AnyB w0 MM ((bl, lsBox (.slice aL q cL)) :: (bb, bgBox (.slice aB m cB)) :: KR) _ := A9.keep (((((List.Sublist.refl _).trans (List.sublist_cons_self _ _)).trans (List.sublist_cons_self _ _)).trans (List.sublist_append_right _ _)).trans (List.sublist_append_right _ _)); refine hK'.out _ _ hk9 (fun _ => ?_); clear hK' K'
            try simp only [Act.put, List.setIfInBounds_toArray, List.set_cons_zero, List.set_cons_succ]
            refine wpAnyL_ready (rs := [3]) (by kernel_rfl) (by simp) ?_; refine AllReadyL.cons (o := { dst := some 53, op := _, type := _, pos := _, after := _, guard := _ }) rfl (fun K' hK' => ?_) AllReadyL.nil; have Rb := cells_of (A9.box _ ((List.mem_append_right _ (List.mem_append_right _ (List.mem_cons_of_mem _ (List.mem_cons_of_mem _ m1)))))); simp only at Rb; go_simp
            refine hK'.out _ _ hk9 (fun _ => ?_); clear hK' K' Rb
            try simp only [Act.put, List.setIfInBounds_toArray, List.set_cons_zero, List.set_cons_succ]
           rotate_left 1
           focus
            have Rb := cells_of (A8.box _ ((List.mem_append_right _ (List.mem_append_right _ (List.mem_cons_of_mem _ (List.mem_cons_of_mem _ m1)))))); simp only at Rb; go_simp
            refine hK'.out _ _ hk8 (fun _ => ?_); clear hK' K' Rb
            try simp only [Act.put, List.setIfInBounds_toArray, List.set_cons_zero, List.set_cons_succ]
            refine wpAnyL_ready (rs := [2]) (by kernel_rfl) (by simp) ?_; refine AllReadyL.cons (o := { dst := some 52, op := _, type := _, pos := _, after := _, guard := _ }) rfl (fun K' hK' => ?_) AllReadyL.nil; refine stepB_app rfl (.tmp 50) (.tmp 51) 137 rfl 44 iL (.slice none 0 0) 1 24 Tryz.underRowsB hL hL0 hL1 hL2 rfl (by decide) RL _ (.slice aL q cL) q vs.reverse A8 HRL.out rfl ⟨a1, 0, none⟩ 1 1 [.slice none 0 0] rfl rfl (newsB_all (T := 44) (fz := (0, 0)) (A8.box _ ((List.mem_append_right _ (List.mem_append_right _ m0))))) (fun u hu => by rw [List.mem_singleton.1 hu]; rfl) (by decide) (by unfold maxLen; omega) (by omega) ?_; intro gL capL w9 R9 hRL2 A9; have hk9 : AnyB w0 MM ((bl, lsBox (.slice aL q cL)) :: (bb, bgBox (.slice aB m cB)) :: KR) _ := A9.keep (((((List.Sublist.refl _).trans (List.sublist_cons_self _ _)).trans (List.sublist_cons_self _ _)).trans (List.sublist_append_right _ _)).trans (List.sublist_append_right _ _)); refine hK'.out _ _ hk9 (fun _ => ?_); clear hK' K'
            try simp only [Act.put, List.setIfInBounds_toArray, List.set_cons_zero, List.set_cons_succ]
           rotate_left 1
          rotate_left 2
          focus
           have Rb := cells_of (A7.box _ ((List.mem_append_right _ (List.mem_append_right _ (List.mem_cons_of_mem _ m1))))); simp only at Rb; go_simp
           refine hK'.out _ _ hk7 (fun _ => ?_); clear hK' K' Rb
           try simp only [Act.put, List.setIfInBounds_toArray, List.set_cons_zero, List.set_cons_succ]
           refine wpAnyL_ready (rs := [1]) (by kernel_rfl) (by simp) ?_; refine AllReadyL.cons (o := { dst := some 51, op := _, type := _, pos := _, after := _, guard := _ }) rfl (fun K' hK' => ?_) AllReadyL.nil; go_simp
           have A8 := (A7.alloc (Obj.cells #[.slice none 0 0] 44)).perm permB; have hk8 : AnyB w0 MM ((bl, lsBox (.slice aL q cL)) :: (bb, bgBox (.slice aB m cB)) :: KR) _ := A8.keep (((((List.Sublist.refl _).trans (List.sublist_cons_self _ _)).trans (List.sublist_cons_self _ _)).trans (List.sublist_append_right _ _)).trans (List.sublist_append_right _ _)); refine hK'.out _ _ hk8 (fun _ => ?_); clear hK' K'
           try simp only [Act.put, List.setIfInBounds_toArray, List.set_cons_zero, List.set_cons_succ]
           generalize w7.heap.size = a1 at *; generalize w7.alloc _ = w8 at *; refine wpAnyL_ready (rs := [2]) (by kernel_rfl) (by simp) ?_; refine AllReadyL.cons (o := { dst := some 52, op := _, type := _, pos := _, after := _, guard := _ }) rfl (fun K' hK' => ?_) AllReadyL.nil; refine stepB_app rfl (.tmp 50) (.tmp 51) 137 rfl 44 iL (.slice none 0 0) 1 24 Tryz.underRowsB hL hL0 hL1 hL2 rfl (by decide) RL _ (.slice aL q cL) q vs.reverse A8 HRL.out rfl ⟨a1, 0, none⟩ 1 1 [.slice none 0 0] rfl rfl (newsB_all (T := 44) (fz := (0, 0)) (A8.box _ ((List.mem_append_right _ (List.mem_append_right _ m0))))) (fun u hu => by rw [List.mem_singleton.1 hu]; rfl) (by decide) (by unfold maxLen; omega) (by omega) ?_; intro gL capL w9 R9 hRL2 A9; have hk9 : AnyB w0 MM ((bl, lsBox (.slice aL q cL)) :: (bb, bgBox (.slice aB m cB)) :: KR) _ := A9.keep (((((List.Sublist.refl _).trans (List.sublist_cons_self _ _)).trans (List.sublist_cons_self _ _)).trans (List.sublist_append_right _ _)).trans (List.sublist_append_right _ _)); refine hK'.out _ _ hk9 (fun _ => ?_); clear hK' K'
           try simp only [Act.put, List.setIfInBounds_toArray, List.set_cons_zero, List.set_cons_succ]
          rotate_left 1
         rotate_left 3
         all_goals
          refine wpAnyL_ready (rs := [6]) (by kernel_rfl) (by simp) ?_; refine AllReadyL.cons (o := { dst := some 56, op := _, type := _, pos := _, after := _, guard := _ }) rfl (fun K' hK' => ?_) AllReadyL.nil; refine stepB_app rfl (.tmp 53) (.tmp 55) 138 rfl 3 iI (.int .i64 0) 1 8 Tryz.underIntsB hI hI0 hI1 hI2 rfl (by decide) RB _ (.slice aB m cB) m (bg.reverse.map (.int .i64 ·)) (A9.perm permC) HRB.out rfl ⟨a5, 0, none⟩ 1 1 [.int .i64 i] rfl rfl (newsB_all (T := 3) (fz := (0, 0)) (A9.box (a5, Obj.cells #[.int .i64 i] 3) ((by first | exact (List.mem_append_right _ (List.mem_append_right _ m0)) | exact (List.mem_append_right _ (List.mem_append_right _ m1)))))) (fun u hu => by rw [List.mem_singleton.1 hu]; rfl) (by decide) (by unfold maxLen; omega) (by omega) ?_; intro gB capB w10 R10 hRB2 A10'; have A10 := A10'.perm permC; clear A10'; have hk10 : AnyB w0 MM ((bl, lsBox (.slice aL q cL)) :: (bb, bgBox (.slice aB m cB)) :: KR) _ := A10.keep (((((List.Sublist.refl _).trans (List.sublist_cons_self _ _)).trans (List.sublist_cons_self _ _)).trans (List.sublist_append_right _ _)).trans (List.sublist_append_right _ _)); refine hK'.out _ _ hk10 (fun _ => ?_); clear hK' K'
          try simp only [Act.put, List.setIfInBounds_toArray, List.set_cons_zero, List.set_cons_succ]
          have hFin := by first | exact HFIN.out _ [(a5, Obj.cells #[.int .i64 i] 3), (a1, Obj.cells #[.slice none 0 0] 44)] _ _ _ _ _ _ hRL2 hRB2 A10 | exact HFIN.out _ [(a1, Obj.cells #[.slice none 0 0] 44), (a5, Obj.cells #[.int .i64 i] 3)] _ _ _ _ _ _ hRL2 hRB2 A10
          have Rl := cells_of (A10.box _ ((List.mem_append_right _ (List.mem_append_right _ (List.mem_cons_of_mem _ (List.mem_cons_of_mem _ m0)))))); have Zl := free_of (A10.box _ ((List.mem_append_right _ (List.mem_append_right _ (List.mem_cons_of_mem _ (List.mem_cons_of_mem _ m0)))))); have yl := blk_lt (A10.box _ ((List.mem_append_right _ (List.mem_append_right _ (List.mem_cons_of_mem _ (List.mem_cons_of_mem _ m0)))))); have Zb := free_of (A10.box _ ((List.mem_append_right _ (List.mem_append_right _ (List.mem_cons_of_mem _ (List.mem_cons_of_mem _ m1)))))); have yb := blk_lt (A10.box _ ((List.mem_append_right _ (List.mem_append_right _ (List.mem_cons_of_mem _ (List.mem_cons_of_mem _ m1)))))); simp only at Rl Zl yl Zb yb; have Rb := cells_of (A10.box _ ((List.mem_append_right _ (List.mem_append_right _ (List.mem_cons_of_mem _ (List.mem_cons_of_mem _ m1)))))); simp only at Rb; refine wpAnyL_ready (rs := [7]) (by kernel_rfl) (by simp) ?_; refine AllReadyL.behind (o := { dst := none, op := _, type := _, pos := _, after := _, guard := _ }) rfl (by kernel_rfl) (fun K' hK' => ?_) AllReadyL.nil; go_simp
          refine hK'.out _ _ ?_; clear hK' K'
          try simp only [Act.put, List.setIfInBounds_toArray, List.set_cons_zero, List.set_cons_succ]
          refine wpAnyL_ready (rs := [8]) (by kernel_rfl) (by simp) ?_; refine AllReadyL.behind (o := { dst := none, op := _, type := _, pos := _, after := _, guard := _ }) rfl (by kernel_rfl) (fun K' hK' => ?_) AllReadyL.nil; go_simp
          refine hK'.out _ _ ?_; clear hK' K'
          try simp only [Act.put, List.setIfInBounds_toArray, List.set_cons_zero, List.set_cons_succ]
          refine wpAnyL_done (by kernel_rfl) ?_ _; go_wp2_with fail
          go_roundw
          case rel => exact ⟨i + 1, _, _, _, by omega, by go_num, rfl, HST.out, HK2.out, hFin⟩
          case measure => simp [intOf]; omega
     · by_cases k8 : tk = 8
       · subst k8
         cases bg with
         | nil =>
          obtain ⟨aB, cB, hbb⟩ := S3.began; have Rb := cells_of hbb; have yb := blk_lt hbb; simp only [List.length_nil] at Rb; have hr := HER.out _ _ _ (step_bare hmay); simp only [Prod.mk.injEq] at hr; obtain ⟨rfl, rfl, rfl, rfl⟩ := hr; go_wp2_with fail
          go_ret3; exact ⟨_, [], rfl, .inl ⟨rfl, rfl, rfl, rfl⟩, (S3.keep ((List.sublist_cons_self _ _).trans (List.sublist_cons_self _ _))).base⟩
         | cons b0 bg =>
          obtain ⟨aB, cB, hbb⟩ := S3.began; have Rb := cells_of hbb; have yb := blk_lt hbb
          obtain ⟨mB, hmB⟩ : ∃ m, (b0 :: bg).length = m := ⟨_, rfl⟩
          rw [hmB] at Rb
          have hmz : ¬ (mB : Int) = 0 := by rw [← hmB, List.length_cons]; omega
          obtain ⟨l0, ls0, rfl⟩ : ∃ l0 ls0, ls = l0 :: ls0 := by
           cases ls with
           | nil => have := HKO.out.1; simp at this
           | cons a b => exact ⟨a, b, rfl⟩
          have hl1 := HKO.out.l1 hi9; have hl2 := HKO.out.l2
          obtain ⟨L1, oo, e1, ha⟩ : ∃ L1 oo e1, arrB L l0 = (L1, oo, e1) := ⟨_, _, _, rfl⟩
          have hbl : bg.length + 1 = ls0.length := by have := HKO.out.1; simp only [List.length_cons] at this; omega
          clear hmB
          go_upto_region 21 with (fail)
          clear Rb yb hbb Rt yt hmz; go_wp2_with fail
          refine (bshut_any S3 ha hl2 hbl).mono ?_; rintro r w6 ⟨rfl, S4⟩; clear S3; obtain ⟨ok, ox, on, op, ol, os'⟩ := oo; have S5 := S4.putO ok ox on op ol os'; have Rx := cells_of (S4.box _ m0); have yx := blk_lt (S4.box _ m0); have Zx := free_of (S4.box _ m0); simp only at Rx yx Zx
          go_upto_region 33 with (fail)
          generalize (((((w6.setCell _ _).setCell _ _).setCell _ _).setCell _ _).setCell _ _).setCell _ _ = w5 at *; clear S4 Rx yx Zx
          by_cases he : e1 = 0
          · subst he
            obtain ⟨l1, ls1, rfl⟩ : ∃ l1 ls1, ls0 = l1 :: ls1 := by
             cases ls0 with
             | nil => rw [List.length_nil] at hbl; omega
             | cons a b => exact ⟨a, b, rfl⟩
            have hl3 := HKO.out.l3 hi9; have hl4 := HKO.out.l4; have R5 := cells_of (S5.box _ m0); have y5 := blk_lt (S5.box _ m0); simp only at R5 y5; go_wp2_with fail
            refine (bput_any S5 ⟨ok, ox, on, op, ol, os'⟩ hl3 hl4).mono ?_; rintro r w8 ⟨rfl, S6⟩; have S7 := S6.keep ((List.sublist_cons_self _ _).trans (List.sublist_cons_self _ _)); go_wp2_with fail
            go_roundw
            case rel => exact ⟨i + 1, _, _, _, by omega, by go_num, rfl, HOK.out _ (step_shut hmay ha), HKO.out.shut _, S7⟩
            case measure => simp [intOf]; omega
          · have he' : decide (e1 = 0) = false := by simp [he]
            have hr := HER.out _ _ _ (step_shutE hmay ha he); simp only [Prod.mk.injEq] at hr; obtain ⟨rfl, rfl, rfl, rfl⟩ := hr; go_wp2_with fail
            go_ret3; exact ⟨_, [], rfl, .inl ⟨rfl, rfl, rfl, rfl⟩, (S5.keep ((List.sublist_cons_self _ _).trans (List.sublist_cons_self _ _))).base⟩
       · by_cases k6 : tk = 6
         · subst k6
           obtain ⟨l0, ls0, rfl⟩ : ∃ l0 ls0, ls = l0 :: ls0 := by
            cases ls with
            | nil => have := HKO.out.1; simp at this
            | cons a b => exact ⟨a, b, rfl⟩
           have hl1 := HKO.out.l1 hi9; have hl2 := HKO.out.l2
           obtain ⟨L1, oo, e1, ha⟩ : ∃ L1 oo e1, stringH L ts = (L1, oo, e1) := ⟨_, _, _, rfl⟩
           have HSG := hid' (S3.askR (M' := (hp, L1) :: M) (fun E A => at_string A ts ha)); have Rh := cells_of S3.hbox; have yh := blk_lt S3.hbox; clear S3
           go_upto_region 23 with (fail)
           go_wp2_with fail
           refine HSG.out.mono ?_; rintro r w6 ⟨rfl, S4⟩; clear Rh yh Rt yt HSG; obtain ⟨ok, ox, on, op, ol, os'⟩ := oo; have S5 := S4.putO ok ox on op ol os'; have Rx := cells_of (S4.box _ m0); have yx := blk_lt (S4.box _ m0); have Zx := free_of (S4.box _ m0); simp only at Rx yx Zx
           go_upto_region 33 with (fail)
           generalize (((((w6.setCell _ _).setCell _ _).setCell _ _).setCell _ _).setCell _ _).setCell _ _ = w5 at *; clear S4 Rx yx Zx
           by_cases he : e1 = 0
           · subst he; have R5 := cells_of (S5.box _ m0); have y5 := blk_lt (S5.box _ m0); simp only at R5 y5; go_wp2_with fail
             refine (bput_any S5 ⟨ok, ox, on, op, ol, os'⟩ hl1 hl2).mono ?_; rintro r w8 ⟨rfl, S6⟩; have S7 := S6.keep ((List.sublist_cons_self _ _).trans (List.sublist_cons_self _ _)); go_wp2_with fail
             go_roundw
             case rel => exact ⟨i + 1, _, _, _, by omega, by go_num, rfl, HOK.out _ (step_leaf hmay (by decide) (by decide) (leaf_6.trans ha)), HKO.out.put _, S7⟩
             case measure => simp [intOf]; omega
           · have he' : decide (e1 = 0) = false := by simp [he]
             have hr := HER.out _ _ _ (step_leafE hmay (by decide) (by decide) (leaf_6.trans ha) he); simp only [Prod.mk.injEq] at hr; obtain ⟨rfl, rfl, rfl, rfl⟩ := hr; go_wp2_with fail
             go_ret3; exact ⟨_, [], rfl, .inl ⟨rfl, rfl, rfl, rfl⟩, (S5.keep ((List.sublist_cons_self _ _).trans (List.sublist_cons_self _ _))).base⟩
         · by_cases k5 : tk = 5
           · subst k5
             obtain ⟨l0, ls0, rfl⟩ : ∃ l0 ls0, ls = l0 :: ls0 := by
              cases ls with
              | nil => have := HKO.out.1; simp at this
              | cons a b => exact ⟨a, b, rfl⟩
             have hl1 := HKO.out.l1 hi9; have hl2 := HKO.out.l2
             obtain ⟨oo, e1, ha⟩ : ∃ oo e1, F L ts = (oo, e1) := ⟨_, _, rfl⟩
             have HSG := hid' (S3.ask (M' := (hp, L) :: M) (P := fun r => ∃ d, r = .tuple #[oo.val, d, .int .i64 e1]) (fun E A => (HFN.out rfl hmay _ (E ++ [_, _]) (by simpa using A)).mono (by
              rintro r w' ⟨d, rfl, A'⟩; rw [ha]
              exact ⟨_, rfl, ⟨d, rfl⟩, by simpa using A'⟩)))
             clear S3
             go_upto_region 25 with (fail)
             go_wp2_with fail
             refine HSG.out.mono ?_; rintro r w6 ⟨rr, rfl, ⟨d, rfl⟩, S4⟩; clear Rt yt HSG; obtain ⟨ok, ox, on, op, ol, os'⟩ := oo; have S5 := S4.putO ok ox on op ol os'; have Rx := cells_of (S4.box _ m0); have yx := blk_lt (S4.box _ m0); have Zx := free_of (S4.box _ m0); simp only at Rx yx Zx
             go_upto_region 33 with (fail)
             generalize (((((w6.setCell _ _).setCell _ _).setCell _ _).setCell _ _).setCell _ _).setCell _ _ = w5 at *; clear S4 Rx yx Zx
             have ha2 : leafB F L ⟨5, tv, ts, tp⟩ = (L, ⟨ok, ox, on, op, ol, os'⟩, e1) := by rw [leaf_5, ha]
             by_cases he : e1 = 0
             · subst he; have R5 := cells_of (S5.box _ m0); have y5 := blk_lt (S5.box _ m0); simp only at R5 y5; go_wp2_with fail
               refine (bput_any S5 ⟨ok, ox, on, op, ol, os'⟩ hl1 hl2).mono ?_; rintro r w8 ⟨rfl, S6⟩; have S7 := S6.keep ((List.sublist_cons_self _ _).trans (List.sublist_cons_self _ _)); go_wp2_with fail
               go_roundw
               case rel => exact ⟨i + 1, _, _, _, by omega, by go_num, rfl, HOK.out _ (step_leaf hmay (by decide) (by decide) ha2), HKO.out.put _, S7⟩
               case measure => simp [intOf]; omega
             · have he' : decide (e1 = 0) = false := by simp [he]
               have hr := HER.out _ _ _ (step_leafE hmay (by decide) (by decide) ha2 he); simp only [Prod.mk.injEq] at hr; obtain ⟨rfl, rfl, rfl, rfl⟩ := hr; go_wp2_with fail
               go_ret3; exact ⟨_, [], rfl, .inl ⟨rfl, rfl, rfl, rfl⟩, (S5.keep ((List.sublist_cons_self _ _).trans (List.sublist_cons_self _ _))).base⟩
           · by_cases k1 : tk = 1
             · subst k1
               obtain ⟨l0, ls0, rfl⟩ : ∃ l0 ls0, ls = l0 :: ls0 := by
                cases ls with
                | nil => have := HKO.out.1; simp at this
                | cons a b => exact ⟨a, b, rfl⟩
               have hl1 := HKO.out.l1 hi9; have hl2 := HKO.out.l2; have S5 := S3.putO 3 false tv 0 0 ⟨#[]⟩; have Rx := cells_of (S3.box _ m0); have yx := blk_lt (S3.box _ m0); have Zx := free_of (S3.box _ m0); simp only at Rx yx Zx
               go_upto_region 33 with (fail)
               generalize (((((w4.setCell _ _).setCell _ _).setCell _ _).setCell _ _).setCell _ _).setCell _ _ = w5 at *; clear S3 Rt yt Rx yx Zx; have R5 := cells_of (S5.box _ m0); have y5 := blk_lt (S5.box _ m0); simp only at R5 y5; go_wp2_with fail
               refine (bput_any S5 ⟨3, false, tv, 0, 0, ⟨#[]⟩⟩ hl1 hl2).mono ?_; rintro r w8 ⟨rfl, S6⟩; have S7 := S6.keep ((List.sublist_cons_self _ _).trans (List.sublist_cons_self _ _)); go_wp2_with fail
               go_roundw
               case rel => exact ⟨i + 1, _, _, _, by omega, by go_num, rfl, HOK.out _ (step_leaf hmay (by decide) (by decide) leaf_1), HKO.out.put _, S7⟩
               case measure => simp [intOf]; omega
             · by_cases k2 : tk = 2
               · subst k2
                 obtain ⟨l0, ls0, rfl⟩ : ∃ l0 ls0, ls = l0 :: ls0 := by
                  cases ls with
                  | nil => have := HKO.out.1; simp at this
                  | cons a b => exact ⟨a, b, rfl⟩
                 have hl1 := HKO.out.l1 hi9; have hl2 := HKO.out.l2; have S5 := S3.putO 4 false tv 0 0 ⟨#[]⟩; have Rx := cells_of (S3.box _ m0); have yx := blk_lt (S3.box _ m0); have Zx := free_of (S3.box _ m0); simp only at Rx yx Zx
                 go_upto_region 33 with (fail)
                 generalize (((((w4.setCell _ _).setCell _ _).setCell _ _).setCell _ _).setCell _ _).setCell _ _ = w5 at *; clear S3 Rt yt Rx yx Zx; have R5 := cells_of (S5.box _ m0); have y5 := blk_lt (S5.box _ m0); simp only at R5 y5; go_wp2_with fail
                 refine (bput_any S5 ⟨4, false, tv, 0, 0, ⟨#[]⟩⟩ hl1 hl2).mono ?_; rintro r w8 ⟨rfl, S6⟩; have S7 := S6.keep ((List.sublist_cons_self _ _).trans (List.sublist_cons_self _ _)); go_wp2_with fail
                 go_roundw
                 case rel => exact ⟨i + 1, _, _, _, by omega, by go_num, rfl, HOK.out _ (step_leaf hmay (by decide) (by decide) leaf_2), HKO.out.put _, S7⟩
                 case measure => simp [intOf]; omega
               · by_cases k3 : tk = 3
                 · subst k3
                   obtain ⟨l0, ls0, rfl⟩ : ∃ l0 ls0, ls = l0 :: ls0 := by
                    cases ls with
                    | nil => have := HKO.out.1; simp at this
                    | cons a b => exact ⟨a, b, rfl⟩
                   have hl1 := HKO.out.l1 hi9; have hl2 := HKO.out.l2; have S5 := S3.putO 5 true 0 0 0 ts; have Rx := cells_of (S3.box _ m0); have yx := blk_lt (S3.box _ m0); have Zx := free_of (S3.box _ m0); simp only at Rx yx Zx
                   go_upto_region 33 with (fail)
                   generalize (((((w4.setCell _ _).setCell _ _).setCell _ _).setCell _ _).setCell _ _).setCell _ _ = w5 at *; clear S3 Rt yt Rx yx Zx; have R5 := cells_of (S5.box _ m0); have y5 := blk_lt (S5.box _ m0); simp only at R5 y5; go_wp2_with fail
                   refine (bput_any S5 ⟨5, true, 0, 0, 0, ts⟩ hl1 hl2).mono ?_; rintro r w8 ⟨rfl, S6⟩; have S7 := S6.keep ((List.sublist_cons_self _ _).trans (List.sublist_cons_self _ _)); go_wp2_with fail
                   go_roundw
                   case rel => exact ⟨i + 1, _, _, _, by omega, by go_num, rfl, HOK.out _ (step_leaf hmay (by decide) (by decide) leaf_3), HKO.out.put _, S7⟩
                   case measure => simp [intOf]; omega
                 · by_cases k4 : tk = 4
                   · subst k4
                     obtain ⟨l0, ls0, rfl⟩ : ∃ l0 ls0, ls = l0 :: ls0 := by
                      cases ls with
                      | nil => have := HKO.out.1; simp at this
                      | cons a b => exact ⟨a, b, rfl⟩
                     have hl1 := HKO.out.l1 hi9; have hl2 := HKO.out.l2; have S5 := S3.putO 5 false 0 0 0 ts; have Rx := cells_of (S3.box _ m0); have yx := blk_lt (S3.box _ m0); have Zx := free_of (S3.box _ m0); simp only at Rx yx Zx
                     go_upto_region 33 with (fail)
                     generalize (((((w4.setCell _ _).setCell _ _).setCell _ _).setCell _ _).setCell _ _).setCell _ _ = w5 at *; clear S3 Rt yt Rx yx Zx; have R5 := cells_of (S5.box _ m0); have y5 := blk_lt (S5.box _ m0); simp only at R5 y5; go_wp2_with fail
                     refine (bput_any S5 ⟨5, false, 0, 0, 0, ts⟩ hl1 hl2).mono ?_; rintro r w8 ⟨rfl, S6⟩; have S7 := S6.keep ((List.sublist_cons_self _ _).trans (List.sublist_cons_self _ _)); go_wp2_with fail
                     go_roundw
                     case rel => exact ⟨i + 1, _, _, _, by omega, by go_num, rfl, HOK.out _ (step_leaf hmay (by decide) (by decide) leaf_4), HKO.out.put _, S7⟩
                     case measure => simp [intOf]; omega
                   · obtain ⟨l0, ls0, rfl⟩ : ∃ l0 ls0, ls = l0 :: ls0 := by
                      cases ls with
                      | nil => have := HKO.out.1; simp at this
                      | cons a b => exact ⟨a, b, rfl⟩
                     have hl1 := HKO.out.l1 hi9; have hl2 := HKO.out.l2
                     go_upto_region 11 with (fail)
                     go_wp2_with fail
                     refine (bname_any tk _).mono ?_; rintro r w6 ⟨rfl, X6⟩; have S4 := S3.pure X6; clear S3 Rt yt X6; have S5 := S4.putO 5 true 0 0 0 (signN tk); have Rx := cells_of (S4.box _ m0); have yx := blk_lt (S4.box _ m0); have Zx := free_of (S4.box _ m0); simp only at Rx yx Zx
                     go_upto_region 33 with (fail)
                     generalize (((((w6.setCell _ _).setCell _ _).setCell _ _).setCell _ _).setCell _ _).setCell _ _ = w5 at *; clear S4 Rx yx Zx; have R5 := cells_of (S5.box _ m0); have y5 := blk_lt (S5.box _ m0); simp only at R5 y5; go_wp2_with fail
                     refine (bput_any S5 ⟨5, true, 0, 0, 0, signN tk⟩ hl1 hl2).mono ?_; rintro r w8 ⟨rfl, S6⟩; have S7 := S6.keep ((List.sublist_cons_self _ _).trans (List.sublist_cons_self _ _)); go_wp2_with fail
                     go_roundw
                     case rel => exact ⟨i + 1, _, _, _, by omega, by go_num, rfl, HOK.out _ (step_leaf hmay k7 k8 (leaf_o k6 k5 k1 k2 k3 k4)), HKO.out.put _, S7⟩
                     case measure => simp [intOf]; omega
 · obtain rfl : i = n := by omega
   rw [List.take_of_length_le (Nat.le_of_eq HN.out)] at hrun; have hb := HRES.out; unfold objsB at hb; rw [hrun] at hb; clear hrun hi hlt
   cases bg with
   | nil =>
    simp only [Prod.mk.injEq] at hb; obtain ⟨rfl, rfl, rfl, rfl⟩ := hb
    obtain ⟨l, rfl⟩ : ∃ l, ls = [l] := by
     have := hok.1
     cases ls with
     | nil => simp at this
     | cons a b => cases b with
      | nil => exact ⟨a, rfl⟩
      | cons c d => simp at this
    obtain ⟨aB, cB, hbb⟩ := S.began; have Rb := cells_of hbb; have yb := blk_lt hbb; simp only [List.length_nil] at Rb; obtain ⟨g, c, v, R, hbl, hcv, hR, HA⟩ := S.first; have Rl := cells_of hbl; have yl := blk_lt hbl; have HR := hid' hR; have HA := hid' HA; clear hR S; go_wp2_with fail
    go_ret3; exact ⟨_, R, rfl, HR.out, HA.out _ (Chg.refl NoB _)⟩
   | cons b0 bg =>
    simp only [Prod.mk.injEq] at hb; obtain ⟨rfl, rfl, rfl, rfl⟩ := hb; obtain ⟨g, c, hbb, hcb⟩ := S.last; have Rb := cells_of hbb; have yb := blk_lt hbb
    obtain ⟨m, hm⟩ : ∃ m, bg.length = m := ⟨_, rfl⟩
    have hm9 : m ≤ 1000 := by have := hok.2.1; rw [List.length_cons] at this; omega
    rw [hm] at Rb hcb
    obtain ⟨q, hq⟩ : ∃ q, m + 1 = q := ⟨_, rfl⟩
    rw [hq] at Rb
    have q0 : (0 : Int) < q := by omega
    have q1 : (q : Int) - 1 = m := by omega
    have m9 : (m : Int) < q := by omega
    have m8 : (0 : Int) ≤ m := by omega
    have vm := IntWalk.i64_in (m : Int) (by omega); have HB := hid' S.base; clear S hm hq hok
    go_upto_region 39 with (fail)
    go_quiet (fail)
    go_wp2_with fail
    go_ret3; exact ⟨_, [], rfl, .inl ⟨rfl, rfl, rfl, rfl⟩, HB.out.pure ((Chg.refl NoB _).drewN nq)⟩
end Go.Proofs.YtpiomapnmempoaaGreat
