/- Parts of the proof: Rgl, Sri. -/
import Derived.Deep.RegionHeld
import Derived.Test.YtpiomapnmempoaaGreatY14
namespace Go.Proofs.YtpiomapnmempoaaGreat
open Go.RowKit
variable {i j : Nat} {v : Value} {w : World}
section
section
variable {P : Program} {ops : Array Oper} {Q : Exit → Act → World → Prop} {md : Region.Mode} {S : World → Prop} {late : List Nat}
def offL (late : List Nat) (listed : Array Bool) : Bool := late.any fun j => listed.getD j true
def wpAnyL (P : Program) (md : Region.Mode) (ops : Array Oper) (Q : Exit → Act → World → Prop) (S : World → Prop) (late : List Nat) : Nat → Array Bool → Act → World → Prop
 | 0, listed, a, w => Region.ready md ops listed = [] ∧ Q .normal a w
 | fuel + 1, listed, a, w =>
  (Region.ready md ops listed = [] → Q .normal a w) ∧
  ∀ i ∈ Region.ready md ops listed, wpOp P ops Q i (fun a' w' => (offL late (listed.setIfInBounds i true) = false → S w') ∧ wpAnyL P md ops Q S late fuel (listed.setIfInBounds i true) a' w') a w
theorem wpAny_of_late : ∀ (fuel : Nat) (listed : Array Bool) (a : Act) (w : World), wpAnyL P md ops Q S late fuel listed a w → wpAny P md ops Q fuel listed a w
 | 0, _, _, _, h => h
 | fuel + 1, _, _, _, h => ⟨h.1, fun i hi => wpOp_mono (fun a' w' h' => wpAny_of_late fuel _ a' w' h'.2) (h.2 i hi)⟩
def waitL (md : Region.Mode) (ops : Array Oper) (late : List Nat) (i : Nat) : Bool := late.all fun j => match ops[j]? with
 | some o => o.after.any fun e => Region.binds md e && e.on == i
 | none => false
theorem wait_not {oj : Oper} (h : waitL md ops late i = true) (hj : ops[j]? = some oj) (hl : j ∈ late) : ∃ e ∈ oj.after, Region.binds md e = true ∧ e.on = i := by
 have := List.all_eq_true.1 h j hl; rw [hj] at this; obtain ⟨e, he, h2⟩ := Array.any_eq_true'.1 this; rw [Bool.and_eq_true, beq_iff_eq] at h2; exact ⟨e, he, h2⟩
theorem off_set {listed : Array Bool} (h : offL late listed = false) (hj : j ∉ late) : offL late (listed.setIfInBounds j true) = false := by
 unfold offL at *; rw [List.any_eq_false] at *; intro k hk; have hjk : j ≠ k := fun e => hj (e ▸ hk); rw [getD_set_ne true hjk]; exact h k hk
theorem off_unset {listed : Array Bool} (h : offL late (listed.setIfInBounds j true) = false) : offL late listed = false := by
 unfold offL at *; rw [List.any_eq_false] at *; intro k hk; have := h k hk
 by_cases hjk : j = k
 · subst hjk; intro e
   rcases Nat.lt_or_ge j listed.size with hlt | hlt
   · simp [hlt] at this
   · simp at this
 · rw [getD_set_ne true hjk] at this; exact this
theorem wpAnyL_first {oi : Oper} (hi : ops[i]? = some oi) (hsel : ∀ (j : Nat) (o : Oper) cs b, ops[j]? = some o → o.op ≠ .select cs b) (hwt : waitL md ops late i = true) (hil : i ∉ late)
 (hQ : ∀ c a w, Q (.panic c) (a.put oi.dst v) w → Q (.panic c) a w) :
 ∀ (fuel : Nat) (listed : Array Bool) (a : Act) (w : World),
  (∀ j oj, ops[j]? = some oj → j ≠ i → listed.getD j true = false → (∀ e ∈ oj.after, Region.binds md e = true → e.on ≠ i) → oi.apart ops oj = true) →
  i ∈ Region.ready md ops listed → YieldsIf P ops S oi v a → S w → offL late listed = false →
  wpAnyL P md ops Q S late fuel (listed.setIfInBounds i true) (a.put oi.dst v) w → wpAnyL P md ops Q S late (fuel + 1) listed a w := by
 intro fuel
 induction fuel with
 | zero =>
  intro listed a w _ hr hy hS hoff H; refine ⟨fun h => (by rw [h] at hr; cases hr), fun j hj => ?_⟩
  by_cases hji : j = i
  · subst hji; exact hy.wpOp hi hS ⟨fun _ => hS, H⟩
  · have := ready_mono hj hji; rw [H.1] at this
    cases this
 | succ fuel ih =>
  intro listed a w hfree hr hy hS hoff H; refine ⟨fun h => (by rw [h] at hr; cases hr), fun j hj => ?_⟩
  by_cases hji : j = i
  · subst hji; exact hy.wpOp hi hS ⟨fun _ => hS, H⟩
  · have h1 := H.2 j (ready_mono hj hji); obtain ⟨hjun, oj, hoj, hall⟩ := mem_ready.1 hj
    have hnot : ∀ e ∈ oj.after, Region.binds md e = true → e.on ≠ i := fun e he hb heq => by
     have h1 := hall e he hb; have h0 := (mem_ready.1 hr).1; rw [heq] at h1
     rcases Nat.lt_or_ge i listed.size with h' | h'
     · simp [h'] at h0 h1; rw [h0] at h1; cases h1
     · simp [Array.getElem?_eq_none h'] at h1
    have hjl : j ∉ late := fun hl => by
     obtain ⟨e, he, hb, heq⟩ := wait_not hwt hoj hl; exact hnot e he hb heq
    have h2 := wpOp_putIf hoj (hfree j oj hoj hji hjun hnot) (fun cs b => hsel i oi cs b hi) (fun cs b => hsel j oj cs b hoj) hQ hy h1
    have hfree' : ∀ k ok, ops[k]? = some ok → k ≠ i → (listed.setIfInBounds j true).getD k true = false →
     (∀ e ∈ ok.after, Region.binds md e = true → e.on ≠ i) → oi.apart ops ok = true := fun k ok hk hki hun hno => by
     refine hfree k ok hk hki ?_ hno
     by_cases hjk : j = k
     · subst hjk; exact hjun
     · rw [getD_set_ne true hjk] at hun; exact hun
    have hoffj : offL late (listed.setIfInBounds j true) = false := off_set hoff hjl; have hoffij : offL late ((listed.setIfInBounds i true).setIfInBounds j true) = false := off_set (off_set hoff hil) hjl; refine wpOp_mono (fun a' w' h3 => ⟨fun _ => h3.2.1 hoffij, ih (listed.setIfInBounds j true) a' w' hfree' (ready_mono hr (Ne.symm hji)) h3.1 (h3.2.1 hoffij) hoffj ?_⟩) h2; rw [Array.setIfInBounds_comm _ _ hji]; exact h3.2.2
theorem wpAnyL_take {oi : Oper} {fuel : Nat} {listed : Array Bool} {a : Act} (hi : ops[i]? = some oi)
 (hs : Region.noSelect ops = true) (hwt : waitL md ops late i = true) (hil : late.contains i = false) (hoff : offL late listed = false) (hf : Region.free md ops listed i = true) (hr : (Region.ready md ops listed).contains i = true)
 (hQ : ∀ c a w, Q (.panic c) (a.put oi.dst v) w → Q (.panic c) a w) (hy : YieldsIf P ops S oi v a) (hS : S w)
 (h : wpAnyL P md ops Q S late fuel (listed.setIfInBounds i true) (a.put oi.dst v) w) : wpAnyL P md ops Q S late (fuel + 1) listed a w :=
 wpAnyL_first hi (Region.noSelect_spec hs) hwt (fun hm => by rw [List.contains_iff_mem.2 hm] at hil; exact absurd hil (by decide)) hQ fuel listed a w (Region.free_spec hi hf) (by simpa using hr) hy hS hoff h
theorem wpAnyL_firstP {oi : Oper} (hi : ops[i]? = some oi) (hsel : ∀ (j : Nat) (o : Oper) cs b, ops[j]? = some o → o.op ≠ .select cs b) (hil : i ∉ late)
 (hQ : ∀ c a w, Q (.panic c) (a.put oi.dst v) w → Q (.panic c) a w) :
 ∀ (fuel : Nat) (listed : Array Bool) (a : Act) (w : World),
  (∀ j oj, ops[j]? = some oj → j ≠ i → listed.getD j true = false → (∀ e ∈ oj.after, Region.binds md e = true → e.on ≠ i) → oi.apart ops oj = true) →
  i ∈ Region.ready md ops listed → YieldsIf P ops (fun _ => True) oi v a → (offL late listed = false → S w) →
  wpAnyL P md ops Q S late fuel (listed.setIfInBounds i true) (a.put oi.dst v) w → wpAnyL P md ops Q S late (fuel + 1) listed a w := by
 intro fuel
 induction fuel with
 | zero =>
  intro listed a w _ hr hy hS H; refine ⟨fun h => (by rw [h] at hr; cases hr), fun j hj => ?_⟩
  by_cases hji : j = i
  · subst hji; exact hy.wpOp hi trivial ⟨fun h => hS (off_unset h), H⟩
  · have := ready_mono hj hji; rw [H.1] at this
    cases this
 | succ fuel ih =>
  intro listed a w hfree hr hy hS H; refine ⟨fun h => (by rw [h] at hr; cases hr), fun j hj => ?_⟩
  by_cases hji : j = i
  · subst hji; exact hy.wpOp hi trivial ⟨fun h => hS (off_unset h), H⟩
  · have h1 := H.2 j (ready_mono hj hji); obtain ⟨hjun, oj, hoj, hall⟩ := mem_ready.1 hj
    have hnot : ∀ e ∈ oj.after, Region.binds md e = true → e.on ≠ i := fun e he hb heq => by
     have h1 := hall e he hb; have h0 := (mem_ready.1 hr).1; rw [heq] at h1
     rcases Nat.lt_or_ge i listed.size with h' | h'
     · simp [h'] at h0 h1; rw [h0] at h1; cases h1
     · simp [Array.getElem?_eq_none h'] at h1
    have h2 := wpOp_putIf hoj (hfree j oj hoj hji hjun hnot) (fun cs b => hsel i oi cs b hi) (fun cs b => hsel j oj cs b hoj) hQ hy h1
    have hfree' : ∀ k ok, ops[k]? = some ok → k ≠ i → (listed.setIfInBounds j true).getD k true = false →
     (∀ e ∈ ok.after, Region.binds md e = true → e.on ≠ i) → oi.apart ops ok = true := fun k ok hk hki hun hno => by
     refine hfree k ok hk hki ?_ hno
     by_cases hjk : j = k
     · subst hjk; exact hjun
     · rw [getD_set_ne true hjk] at hun; exact hun
    have hSj : ∀ w', (offL late ((listed.setIfInBounds i true).setIfInBounds j true) = false → S w') → (offL late (listed.setIfInBounds j true) = false → S w') := fun w' h h' => h (by
     rw [Array.setIfInBounds_comm _ _ (Ne.symm hji)]
     exact off_set h' hil)
    refine wpOp_mono (fun a' w' h3 => ⟨hSj w' h3.2.1, ih (listed.setIfInBounds j true) a' w' hfree' (ready_mono hr (Ne.symm hji)) h3.1 (hSj w' h3.2.1) ?_⟩) h2; rw [Array.setIfInBounds_comm _ _ hji]; exact h3.2.2
theorem wpAnyL_pure {oi : Oper} {fuel : Nat} {listed : Array Bool} {a : Act} (hi : ops[i]? = some oi)
 (hs : Region.noSelect ops = true) (hil : late.contains i = false) (hf : Region.free md ops listed i = true) (hr : (Region.ready md ops listed).contains i = true)
 (hQ : ∀ c a w, Q (.panic c) (a.put oi.dst v) w → Q (.panic c) a w) (hy : YieldsIf P ops (fun _ => True) oi v a) (hS : S w)
 (h : wpAnyL P md ops Q S late fuel (listed.setIfInBounds i true) (a.put oi.dst v) w) : wpAnyL P md ops Q S late (fuel + 1) listed a w :=
 wpAnyL_firstP hi (Region.noSelect_spec hs) (fun hm => by rw [List.contains_iff_mem.2 hm] at hil; exact absurd hil (by decide)) hQ fuel listed a w (Region.free_spec hi hf) (by simpa using hr) hy (fun _ => hS) h
def AllReadyL (P : Program) (md : Region.Mode) (ops : Array Oper) (Q : Exit → Act → World → Prop) (S : World → Prop) (late : List Nat) (fuel : Nat) (listed : Array Bool) (a : Act) (w : World) (rs : List Nat) : Prop :=
 ∀ i ∈ rs, wpOp P ops Q i (fun a' w' => (offL late (listed.setIfInBounds i true) = false → S w') ∧ wpAnyL P md ops Q S late fuel (listed.setIfInBounds i true) a' w') a w
theorem AllReadyL.nil {fuel : Nat} {listed : Array Bool} {a : Act} : AllReadyL P md ops Q S late fuel listed a w [] := fun _ h => by cases h
theorem AllReadyL.cons {fuel : Nat} {listed : Array Bool} {a : Act} {o : Oper} {rs : List Nat} (ho : ops[i]? = some o)
 (h : ∀ K' : Act → World → Prop, Shut (∀ a w, S w → (S w → wpAnyL P md ops Q S late fuel (listed.setIfInBounds i true) a w) → K' a w) → if Region.wanted o (yielded ops a.tmps) = true then Oper.wp P o a w K' Q else K' (a.put o.dst undef) w)
 (hs : AllReadyL P md ops Q S late fuel listed a w rs) : AllReadyL P md ops Q S late fuel listed a w (i :: rs) := fun j hj => by
 rcases List.mem_cons.1 hj with rfl | hj
 · exact wpOp_step ho (fun K' hK => h K' (fun a w hS hW => hK a w ⟨fun _ => hS, hW hS⟩))
 · exact hs j hj
theorem AllReadyL.behind {fuel : Nat} {listed : Array Bool} {a : Act} {o : Oper} {rs : List Nat} (ho : ops[i]? = some o) (hoff : offL late (listed.setIfInBounds i true) = true)
 (h : ∀ K' : Act → World → Prop, Shut (∀ a w, wpAnyL P md ops Q S late fuel (listed.setIfInBounds i true) a w → K' a w) → if Region.wanted o (yielded ops a.tmps) = true then Oper.wp P o a w K' Q else K' (a.put o.dst undef) w)
 (hs : AllReadyL P md ops Q S late fuel listed a w rs) : AllReadyL P md ops Q S late fuel listed a w (i :: rs) := fun j hj => by
 rcases List.mem_cons.1 hj with rfl | hj
 · exact wpOp_step ho (fun K' hK => h K' (fun a w hW => hK a w ⟨fun h0 => absurd (hoff.symm.trans h0) (by decide), hW⟩))
 · exact hs j hj
theorem wpAnyL_ready {rs : List Nat} {fuel : Nat} {listed : Array Bool} {a : Act} (hr : Region.ready md ops listed = rs) (hne : rs ≠ [])
 (h : AllReadyL P md ops Q S late fuel listed a w rs) : wpAnyL P md ops Q S late (fuel + 1) listed a w :=
 ⟨fun h0 => absurd (hr ▸ h0) hne, hr ▸ h⟩
theorem wpAnyL_done {listed : Array Bool} {a : Act} (hr : Region.ready md ops listed = []) (h : Q .normal a w) : ∀ fuel, wpAnyL P md ops Q S late fuel listed a w
 | 0 => ⟨hr, h⟩
 | _ + 1 => ⟨fun _ => h, by rw [hr]; simp⟩
theorem wp_region_late {id : Nat} {a : Act} (hm : P.follows .mixedOrders = true) (hS : S w.drew)
 (h : S w.drew → wpAnyL P .any ops Q S late ops.size (Array.replicate ops.size false) a w.drew) : (Code.region id ops true).wp P Q a w :=
 wp_region_any hm (wpAny_of_late _ _ _ _ (h hS))
end
end
set_option maxRecDepth 100000 in
theorem stk_items {w0 : World} {M : List (Nat × List C)} {K : List (Nat × Obj)} {sp : Nat} {l : List O} (S : StkAt w0 w M K sp l) (hl : 0 < l.length) (n : Nat) (hn : l.length = n) :
 Calls Tryz.prog 17 #[ptr sp] w fun e w' => ∃ g cap cur, e = .returned (.slice (some ⟨g, 0, none⟩) n cap) ∧ n ≤ cap ∧ StkAt w0 w' M ((g, .cells cur 49) :: K) sp l ∧ ∀ i, i < n * 6 → cur[i]? = (l.flatMap O.cells)[i]? := by
 subst hn; obtain ⟨i0, hi, hz0, hz1, hz2⟩ := info_parts Tryz.infoObj; have HS := hid' S; have hlen := S.len; obtain ⟨-, R, lv, hR, A⟩ := S; obtain ⟨g, cap, cur, rfl, rfl, hcur⟩ := hR.shape hl; have Rs := cells_of (A.box (sp, stkBox (.slice (some ⟨g, 0, none⟩) l.length cap)) (List.mem_append_right _ (List.mem_cons_self ..))); have hbox := A.box (g, .cells cur 49) (List.mem_append_left _ (List.mem_cons_self ..)); simp only at Rs hbox
 have HN := hid' (fun j u (hj : (l.flatMap O.cells)[j]? = some u) => (show w.cell? ((⟨g, 0, none⟩ : Addr).add j) = some u by
  have hjl : j < l.length * 6 := by rw [← flat_length O.cells 6 cells_length]; exact (List.getElem?_eq_some_iff.1 hj).1
  exact World.news_of_block hbox j u (by rw [← hj, ← hcur j hjl]; simp)))
 have HL := hid' hl; clear hR A hbox hcur hl; go_enter Tryz.func17, Tryz.ntmps17
 go_wp2_with (at_builtin; refine wpList_append_own _ rfl _ _ 44 rfl w.heap.size 49 i0 O.nil.val 6 56 Tryz.underObjs hi hz0 hz1 hz2 rfl (by decide) (.slice none 0 0) 0 [] rfl (World.ownsRow_nil _ _ _ _) ⟨g, 0, none⟩ l.length cap (l.flatMap O.cells) rfl (flat_length O.cells 6 cells_length l) (fun j u hj => HN.out j u hj) (flat_one l) ?_ ?_ ?_ ?_; (unfold maxLen; omega); omega; (simp; try omega); intro v' w2 hown hgr _)
 have X : Chg NoB w w2 := Chg.grown (Chg.refl _ _) hgr (fun k hk => by simp [Value.ownBlock] at hk); go_ret; simp only [Nat.zero_add, List.nil_append] at hown; obtain ⟨hl2, ⟨rfl, h0⟩ | ⟨g', cap', cur', rfl, hg0, hg', c1, c2, c3, c4⟩⟩ := hown
 · have := HL.out; omega
 · exact ⟨g', cap', rfl, c1, cur', HS.out.got X hg' hg0, fun i hi => by rw [← c4, List.getElem?_take_of_lt hi, Array.getElem?_toList]⟩
set_option maxRecDepth 100000 in
theorem stk_tomark {w0 : World} {M : List (Nat × List C)} {K : List (Nat × Obj)} {sp : Nat} {l xs : List O} {mk : O} (S : StkAt w0 w M K sp (l ++ mk :: xs)) (hm : mk.kind = 6) (hx : ∀ o ∈ xs, o.kind ≠ 6) (n : Nat) (hn : xs.length = n) :
 Calls Tryz.prog 200 #[ptr sp] w fun e w' => e = .returned (.tuple #[.int .i64 n, .int .i64 0]) ∧ StkAt w0 w' M K sp (l ++ mk :: xs) := by
 have hlen := S.len
 have hl2 : (l ++ mk :: xs).length = l.length + 1 + n := by simp [hn]; omega
 have HP := hid' (fun (w' : World) (K' : List (Nat × Obj)) (S' : StkAt w0 w' M K' sp (l ++ mk :: xs)) (i m : Nat) (o : O) (h1 : m + 1 + i = (l ++ mk :: xs).length) (h2 : (l ++ mk :: xs)[m]? = some o) => stk_peek S' i m o h1 h2)
 have HXS := hid' (fun (i : Nat) (hi : i < n) => (show ∃ o, (l ++ mk :: xs)[l.length + 1 + (n - 1 - i)]? = some o ∧ o.kind ≠ 6 by
  have hlt : n - 1 - i < xs.length := by omega
  refine ⟨xs[n - 1 - i], ?_, hx _ (List.getElem_mem hlt)⟩
  rw [List.getElem?_append_right (by omega), show l.length + 1 + (n - 1 - i) - l.length = (n - 1 - i) + 1 by omega, List.getElem?_cons_succ, List.getElem?_eq_getElem hlt]))
 have hmk : (l ++ mk :: xs)[l.length]? = some mk := by rw [List.getElem?_append_right (Nat.le_refl _), Nat.sub_self]; rfl
 have HMK := hid' hmk; have HL2 := hid' hl2; have HMM := hid' hm
 obtain ⟨len, hlen2⟩ : ∃ len : Nat, l.length = len := ⟨_, rfl⟩
 have hll : ((l ++ mk :: xs).length : Int) = len + 1 + n := by rw [hl2]; omega
 have hq : len + 1 + n ≤ 200 := by omega
 have HS := hid' S; obtain ⟨-, R, lv, hR, A⟩ := S; obtain ⟨a, c, rfl, hac⟩ := rowG_slice hR; have Rs := cells_of (A.box (sp, stkBox (.slice a (l ++ mk :: xs).length c)) (List.mem_append_right _ (List.mem_cons_self ..))); rw [hl2] at Rs; simp only at Rs; rw [hlen2] at HXS HMK HL2 Rs; clear hR A hac hx hn hm hmk hl2 hlen hll hlen2; generalize l ++ mk :: xs = lo at *; go_enter Tryz.func200, Tryz.ntmps200
 go_wp2_with fail
 go_loopw [14] (fun cv wr => ∃ k : Nat, k ≤ n ∧ cv = .int .i64 k ∧ StkAt w0 wr M K sp lo) (fun cv _ => n - (intOf cv).toNat)
 case atStart => exact ⟨0, Nat.zero_le _, rfl, HS.out⟩
 case round =>
  obtain ⟨k, hk, rfl, S2⟩ := hrel
  by_cases hlt : k < n
  · obtain ⟨o, ho, hko⟩ := HXS.out k hlt; have HPK := hid' (fun (w' : World) (K' : List (Nat × Obj)) (S' : StkAt w0 w' M K' sp lo) => HP.out w' K' S' k _ o (by rw [HL2.out]; omega) ho); obtain ⟨kk, kx, kn, kp, kl, ks⟩ := o
    have d6 : (kk == 6) = false := by simpa using hko
    have dl : decide ((k : Int) < (len + 1 + n : Nat)) = true := by simp; omega
    have dl' : (k : Int) < (len : Int) + 1 + n := by omega
    clear ho hko Rs; go_wp2_with fail
    refine (HPK.out _ _ S2).mono ?_; rintro r w3 ⟨rfl, S3⟩; have S4 := S3.alloc (Obj.cells #[.int .i64 kk, .bool kx, .int .i64 kn, .int .i64 kp, .int .i64 kl, .string ks] 49); go_wp2_with fail
    go_roundw
    case rel => exact ⟨k + 1, by omega, by go_num, S4.keep (List.sublist_cons_self _ _)⟩
    case measure => simp [intOf]; omega
  · obtain rfl : k = n := by omega
    have HPK := hid' (fun (w' : World) (K' : List (Nat × Obj)) (S' : StkAt w0 w' M K' sp lo) => HP.out w' K' S' k len mk (by have := HL2.out; omega) HMK.out); have hmm := HMM.out; obtain ⟨kk, kx, kn, kp, kl, ks⟩ := mk; simp only at hmm; subst hmm
    have dl : decide ((k : Int) < (len + 1 + k : Nat)) = true := by simp; omega
    have dl' : (k : Int) < (len : Int) + 1 + k := by omega
    clear Rs; go_wp2_with fail
    refine (HPK.out _ _ S2).mono ?_; rintro r w3 ⟨rfl, S3⟩; have S4 := S3.alloc (.cells #[.int .i64 6, .bool kx, .int .i64 kn, .int .i64 kp, .int .i64 kl, .string ks] 49); go_wp2_with fail
    go_ret2
    exact ⟨rfl, S4.keep (List.sublist_cons_self _ _)⟩
end Go.Proofs.YtpiomapnmempoaaGreat
