/- Parts of the proof: Uxt, Uxu, Uxv. -/
import Derived.Test.YtoogmimbmgdflaaGreatY43
namespace Go.Proofs.YtoogmimbmgdflaaGreat
open Go.RowKit
variable {at_ e : Int} {o : O}
section
theorem dQ_2 (s : ByteArray) : 2 ≤ (dQ s).length := Nat.le_refl 2
theorem may5_size {t : Tok} (hm : mayT t = true) (h5 : t.kind = 5) : t.s.size ≤ 100 := by
 obtain ⟨tk, tn, ts, tp⟩ := t; simp only at h5; subst h5; obtain rfl := may_zero hm (by decide) (by decide); unfold mayT at hm; simp only [or_true, if_true, Bool.and_eq_true, decide_eq_true_eq, show ¬ (5 : Int) = 1 by decide, show ¬ (5 : Int) = 2 by decide, show ¬ (5 : Int) = 3 by decide, if_false, ne_eq, not_true_eq_false] at hm; exact hm.1
section
variable {w0 w w' : World} {hp cp gp sp : Nat} {K K' : List (Nat × Obj)} {L L1 L1' L2 L2' : List C} {s : ByteArray}
theorem bb_new (S : ScpAt w0 w [(hp, L1)] [(gp, refBox (.slice none 0 0))] cp hp (dsQ 2)) : Calls Tryz.prog 7 #[ptr gp] w fun r w' => ∃ sp, r = .returned (.tuple #[ptr sp, .int .i64 0]) ∧ BB w0 w' hp cp gp sp [] L1 (hQ sysQ) := by
 obtain ⟨g, cap, cur, h1, h2, h3, h4, A⟩ := S
 have T : RS [] w0 gp [(hp, L1)] [(g, .cells cur 39), (cp, scpBox hp g (dsQ 2).length cap)] [] w := ⟨[(gp, refBox (.slice none 0 0))], RefK.new gp, A.perm (by
  classical refine List.perm_iff_count.2 fun q => ?_
  simp only [List.count_append, List.count_cons, List.count_nil]
  omega)⟩
 refine (rnew16_ex T).mono ?_; rintro r w' ⟨sp, rfl, T'⟩; exact ⟨sp, rfl, g, cap, cur, h1, h2, h3, h4, T'⟩
theorem bb_def (S : BB w0 w hp cp gp sp K (hQ sysQ) L2) (hs : s.size ≤ 100) : Calls Tryz.prog 8 #[ptr cp, (nameO s).val, (iO 5).val] w fun x w' => x = .returned (.int .i64 0) ∧ BB w0 w' hp cp gp sp K (hQ (dQ s)) L2 := by
 obtain ⟨g, cap, cur, h1, h2, h3, h4, g2, cap2, cur2, k1, k2, k3, k4, E, H, A⟩ := S
 have S : ScpAt w0 w [(hp, hQ sysQ)] (E ++ (g2, .cells cur2 39) :: (sp, .cells #[ptr gp, .slice (some ⟨g2, 0, none⟩) (dsQ 2).length cap2] 74) :: K) cp hp (dsQ 2) := ⟨g, cap, cur, h1, h2, h3, h4, A.perm (by
  classical refine List.perm_iff_count.2 fun q => ?_
  simp only [List.count_append, List.count_cons]
  omega)⟩
 have h : Calls Tryz.prog 8 #[ptr cp, (nameO s).val, (iO 5).val] w fun x w' => x = .returned (.int .i64 0) ∧ ScpAt w0 w' [(hp, hQ (dQ s))] (E ++ (g2, .cells cur2 39) :: (sp, .cells #[ptr gp, .slice (some ⟨g2, 0, none⟩) (dsQ 2).length cap2] 74) :: K) cp hp (dsQ 2) := q_def sysQ sysQ_ok 1 S [] 200 rfl (by decide) s hs (iO 5) (by rfl); refine h.mono ?_; rintro x w' ⟨rfl, g', cap', cur', h1', h2', h3', h4', A'⟩
 exact ⟨rfl, g', cap', cur', h1', h2', h3', h4', g2, cap2, cur2, k1, k2, k3, k4, E, H, A'.perm (by
  classical refine List.perm_iff_count.2 fun q => ?_
  simp only [List.count_append, List.count_cons]
  omega)⟩
theorem may_5 (L : List C) : mayH L (iO 5) = true := BareB.may (o := iO 5) (.inl ⟨5, rfl, by decide, by decide⟩) L
theorem bb_rdef (S : BB w0 w hp cp gp sp K L1 (hQ sysQ)) (hs : s.size ≤ 100) : Calls Tryz.prog 9 #[ptr sp, O.val ⟨5, false, 0, 0, 0, s⟩, (iO 5).val] w fun x w' => x = .returned (.int .i64 0) ∧ BB w0 w' hp cp gp sp K L1 (hQ (dQ s)) :=
 S.ref1 fun _K' T => rdef16_any T s hs (iO 5) may_5
variable {ad : Option Addr} {cap n : Nat} {toks : List Tok}
theorem hfi (s : ByteArray) (hX : ∃ X, L1 = hQ (dQ s) ++ X) (hl : L1.length ≤ 2000) (hu : used L1 ≤ 40000) (hn : toks.length ≤ 60) (F : FindOk (dQ s) w0 hp cp K') :
 ∀ (i : Nat) (L : List C) (ls : List (List O)) (bg : List Int) (t : Tok), runO (lookL (dQ s)) 0 (toks.take i) (L1, [[]], []) = .inl (L, ls, bg) → toks[i]? = some t → t.kind = 5 → mayT t = true → ∀ W E, Ats w0 W [(hp, L)] (E ++ K') →
  Calls Tryz.prog 42 #[ptr cp, (exeN t.s).val] W fun r w' => ∃ d, r = .returned (.tuple #[(lookL (dQ s) L t.s).1.val, d, .int .i64 (lookL (dQ s) L t.s).2]) ∧ Ats w0 w' [(hp, L)] (E ++ K') := by
 intro i L ls bg t hr _ h5 hm W E A; obtain ⟨X, rfl⟩ := hX; obtain ⟨Z, hZ⟩ := (run_pre (goodF_d s) (toks.take i) 0 0 _ (by rw [List.length_take]; omega) (run_start _ hl hu)).1 _ hr; simp only [List.append_assoc] at hZ; subst hZ; refine (F _ W E A t.s (may5_size hm h5)).mono ?_; rintro r w' ⟨⟨d, e⟩, A'⟩; exact ⟨d.val, e, A'⟩
theorem bb_objs (S : BB w0 w hp cp gp sp K L1 L2) (hX : ∃ X, L1 = hQ (dQ s) ++ X) (hl : L1.length ≤ 2000) (hu : used L1 ≤ 40000) (hn : toks.length = n) (h60 : n ≤ 60) (hv : ToksAt w0 (.slice ad n cap) toks) (hok : ∀ t ∈ toks, TokB t) {os : List O} {at_ e : Int} (hres : objsB (lookL (dQ s)) L1 toks = (L1', os, at_, e)) :
 Calls Tryz.prog 10 #[ptr hp, ptr cp, .slice ad n cap] w fun r w' => ∃ R, (∃ v, r = .returned (.tuple #[v, .int .i64 at_, .int .i64 e]) ∧ RowG 39 6 R v os.length (os.flatMap O.cells)) ∧ BB w0 w' hp cp gp sp (R ++ K) L1' L2 := by
 refine BB.prg (Post := fun r R => ∃ v, r = .returned (.tuple #[v, .int .i64 at_, .int .i64 e]) ∧ RowG 39 6 R v os.length (os.flatMap O.cells)) (dQ s) (dQ_ok s) (dQ_2 s) S fun K' F A => ?_; refine (objs_any (M := []) A (.slice ad n cap) toks (fun W M' E A => hv.pure A.chg) hok (by omega) (lookL (dQ s)) (hfi s hX hl hu (by omega) F) hres).mono ?_; rintro r w' ⟨v, R, h1, h2, h3⟩; exact ⟨R, ⟨v, h1, h2⟩, h3⟩
theorem bb_robjs (S : BB w0 w hp cp gp sp K L1 L2) (hX : ∃ X, L2 = hQ (dQ s) ++ X) (hl : L2.length ≤ 2000) (hu : used L2 ≤ 40000) (hn : toks.length = n) (h60 : n ≤ 60) (hv : ToksAt w0 (.slice ad n cap) toks) (hok : ∀ t ∈ toks, TokB t) {os : List O} {at_ e : Int} (hres : objsB (lookL (dQ s)) L2 toks = (L2', os, at_, e)) :
 Calls Tryz.prog 11 #[ptr gp, ptr sp, .slice ad n cap] w fun r w' => ∃ R, (∃ v, r = .returned (.tuple #[v, .int .i64 at_, .int .i64 e]) ∧ RowG 39 6 R v os.length (os.flatMap O.cells)) ∧ BB w0 w' hp cp gp sp (R ++ K) L1 L2' := by
 refine BB.ref (Post := fun r R => ∃ v, r = .returned (.tuple #[v, .int .i64 at_, .int .i64 e]) ∧ RowG 39 6 R v os.length (os.flatMap O.cells)) S fun K' T => ?_; refine (robjs_any (dQ s) (dQ_ok s) (dQ_2 s) (goodF_d s) L2 hX T hl hu ad cap n toks hn (by omega) hv hok hres).mono ?_; rintro r w' ⟨v, R, h1, h2, h3⟩; exact ⟨R, ⟨v, h1, h2⟩, h3⟩
theorem bb_prog (S : BB w0 w hp cp gp sp K L1 L2) (hX : ∃ X, L1 = hQ (dQ s) ++ X) (hl : L1.length ≤ 2000) (hu : used L1 ≤ 40000) (hn : toks.length = n) (h60 : n ≤ 60) (hv : ToksAt w0 (.slice ad n cap) toks) (hok : ∀ t ∈ toks, TokB t) {o : O} {at_ e : Int} (hres : progB (lookL (dQ s)) L1 toks = (L1', o, at_, e)) :
 Calls Tryz.prog 14 #[ptr hp, ptr cp, .slice ad n cap] w fun r w' => r = .returned (.tuple #[o.val, .int .i64 at_, .int .i64 e]) ∧ BB w0 w' hp cp gp sp K L1' L2 :=
 S.prg1 (dQ s) (dQ_ok s) (dQ_2 s) fun K' F A => prog_any (M := []) A (.slice ad n cap) toks (fun W M' E A => hv.pure A.chg) hok (by omega) (lookL (dQ s)) (hfi s hX hl hu (by omega) F) hres
theorem bb_rprog (S : BB w0 w hp cp gp sp K L1 L2) (hX : ∃ X, L2 = hQ (dQ s) ++ X) (hl : L2.length ≤ 2000) (hu : used L2 ≤ 40000) (hn : toks.length = n) (h60 : n ≤ 60) (hv : ToksAt w0 (.slice ad n cap) toks) (hok : ∀ t ∈ toks, TokB t) {o : O} {at_ e : Int} (hres : progB (lookL (dQ s)) L2 toks = (L2', o, at_, e)) :
 Calls Tryz.prog 15 #[ptr gp, ptr sp, .slice ad n cap] w fun r w' => r = .returned (.tuple #[o.val, .int .i64 at_, .int .i64 e]) ∧ BB w0 w' hp cp gp sp K L1 L2' :=
 S.ref1 fun K' T => rprog_any (dQ s) (dQ_ok s) (dQ_2 s) (goodF_d s) L2 hX T hl hu ad cap n toks hn (by omega) hv hok hres
theorem base_of {HB L : List C} (h : ∃ X, L = HB ++ X) : BaseB HB L := by
 obtain ⟨X, rfl⟩ := h; exact fun i hi => List.getElem?_append_left hi
theorem bb_bind (S : BB w0 w hp cp gp sp K L L2) (hX : ∃ X, L = hQ (dQ s) ++ X) (hl : L.length ≤ 2000) {d lo hi : Nat} {o : O} (ht : TreeB L d lo o hi) (h9 : o.kind = 9) (hlo : 2 ≤ lo) (hhi : hi ≤ L.length) (h100 : hi - lo ≤ 100) :
 Calls Tryz.prog 16 #[ptr hp, ptr cp, o.val] w fun r w' => r = .returned (.tuple #[.int .i64 ((cntP (lookF (dQ s)) (inI lo hi) L : Nat) : Int), .int .i64 0]) ∧ BB w0 w' hp cp gp sp K (mapP (lookF (dQ s)) (inI lo hi) L) L2 := by
 have hlen := hdQ_len s; have hB := base_of hX
 have hle : (hQ (dQ s)).length ≤ L.length := by obtain ⟨X, rfl⟩ := hX; simp
 have hO := outer_tree (goodN_d s) (HB := hQ (dQ s)) (hi - lo) L [(o, lo, hi)] [] 0 hB hle hl (by simp [sizeW]) (by omega) (fun w hw => by
  rw [List.mem_singleton.1 hw]
  exact ⟨⟨d, ht⟩, h9, by rw [hlen]; exact hlo, hhi⟩) (List.pairwise_singleton _ _) (fun q hq => absurd hq (List.not_mem_nil)) (by omega)
 rw [allP_one, Nat.zero_add] at hO; refine S.prg1 (dQ s) (dQ_ok s) (dQ_2 s) fun K' F A => ?_; refine bind_any (M := []) A o h9 (ht.may hl) (FRB (lookF (dQ s)) (hQ (dQ s))) (fun L x v e hF W E A' => ?_) hO; obtain ⟨⟨X, rfl⟩, s', hs', rfl, rfl, rfl⟩ := hF; refine (F X W E A' s' hs').mono ?_; rintro r w' ⟨⟨d, e⟩, A'⟩; exact ⟨d, e, A'⟩
theorem bb_rbind (S : BB w0 w hp cp gp sp K L1 L) (hX : ∃ X, L = hQ (dQ s) ++ X) (hl : L.length ≤ 2000) {d lo hi : Nat} {o : O} (ht : TreeB L d lo o hi) (h9 : o.kind = 9) (hlo : 2 ≤ lo) (hhi : hi ≤ L.length) (h100 : hi - lo ≤ 100) :
 Calls Tryz.prog 17 #[ptr gp, ptr sp, o.val] w fun r w' => r = .returned (.tuple #[.int .i64 ((cntP (lookF (dQ s)) (inI lo hi) L : Nat) : Int), .int .i64 0]) ∧ BB w0 w' hp cp gp sp K L1 (mapP (lookF (dQ s)) (inI lo hi) L) := by
 have hlen := hdQ_len s; have hB := base_of hX
 have hle : (hQ (dQ s)).length ≤ L.length := by obtain ⟨X, rfl⟩ := hX; simp
 obtain ⟨seen', hR, -, -⟩ := rb_tree (goodN_d s) (HB := hQ (dQ s)) d d (Nat.le_refl _) L lo hi o [] ht h9 hB (by rw [hlen]; exact hlo) hle hhi hl (by omega) (fun q hq => absurd hq (List.not_mem_nil)); exact S.ref1 fun K' T => rBind_any (dQ s) (dQ_ok s) (dQ_2 s) T h9 (ht.may hl) hR
def TailC (w0 : World) (hp cp gp sp : Nat) (L : List C) (x : O) (rn re : Int) (LB : List C) (tx : ByteArray) : Prop :=
 (∀ w K, BB w0 w hp cp gp sp K L L → Calls Tryz.prog 16 #[ptr hp, ptr cp, x.val] w fun r w' => r = .returned (.tuple #[.int .i64 rn, .int .i64 re]) ∧ BB w0 w' hp cp gp sp K LB L) ∧
 (∀ w K, BB w0 w hp cp gp sp K LB L → Calls Tryz.prog 17 #[ptr gp, ptr sp, x.val] w fun r w' => r = .returned (.tuple #[.int .i64 rn, .int .i64 re]) ∧ BB w0 w' hp cp gp sp K LB LB) ∧
 (∀ w K, BB w0 w hp cp gp sp K LB LB → Calls Tryz.prog 18 #[ptr hp, x.val] w fun r w' => r = .returned (.string tx) ∧ BB w0 w' hp cp gp sp K LB LB) ∧
 (∀ w K, BB w0 w hp cp gp sp K LB LB → Calls Tryz.prog 19 #[ptr gp, x.val] w fun r w' => r = .returned (.string tx) ∧ BB w0 w' hp cp gp sp K LB LB)
theorem tail_any (s : ByteArray) (w0 : World) (hp cp gp sp : Nat) (hX : ∃ X, L1 = hQ (dQ s) ++ X) (hl : L1.length ≤ 2000) (hu : used L1 ≤ 40000) (hn : toks.length ≤ 60) {x : O} {a e : Int} (hres : progB (lookL (dQ s)) L1 toks = (L, x, a, e)) :
 ∃ rn re LB tx, TailC w0 hp cp gp sp L x rn re LB tx := by
 obtain ⟨⟨Z, hZ⟩, hL⟩ := prog_pre (goodF_d s) L1 hl hu toks (by omega) hres
 have hX2 : ∃ X, L = hQ (dQ s) ++ X := by
  obtain ⟨X, rfl⟩ := hX; exact ⟨X ++ Z, by rw [hZ, List.append_assoc]⟩
 have hlo : 2 ≤ L1.length := by
  obtain ⟨X, rfl⟩ := hX; rw [List.length_append, hdQ_len]; omega
 rcases prog_tree (goodF_d s) L1 hl hu toks (by omega) with ⟨L', o, h1, ht, h9, h3, h4⟩ | ⟨L', a', e', h1, h2⟩
 · rw [hres] at h1; simp only [Prod.mk.injEq] at h1; obtain ⟨rfl, rfl, -, -⟩ := h1; have ht2 := TreeB.bound (goodN_d s) 21 _ _ _ ht (Nat.le_refl _) (Nat.le_refl _); rw [bindI_9 _ h9] at ht2
   have hl2 : (mapP (lookF (dQ s)) (inI L1.length L.length) L).length ≤ 2000 := by rw [mapP_length]; exact h3
   exact ⟨_, _, _, _, fun w K S => bb_bind S hX2 h3 ht h9 hlo (Nat.le_refl _) (by omega), fun w K S => bb_rbind S hX2 h3 ht h9 hlo (Nat.le_refl _) (by omega),
    fun w K S => S.prg1 (dQ s) (dQ_ok s) (dQ_2 s) fun K' _ A => full_tree A (List.mem_singleton.2 rfl) hl2 x ht2,
    fun w K S => S.ref1 fun K' T => T.ask fun a b T => rfull_tree T hl2 x ht2⟩
 · rw [hres] at h1; simp only [Prod.mk.injEq] at h1; obtain ⟨rfl, rfl, -, -⟩ := h1
   exact ⟨0, 6, L, ⟨#[]⟩, fun w K S => (bind_nil hp cp w).mono fun r w' h => ⟨h.1, S.pure h.2⟩, fun w K S => (rbind_nil gp sp w).mono fun r w' h => ⟨h.1, S.pure h.2⟩,
    fun w K S => S.prg1 (dQ s) (dQ_ok s) (dQ_2 s) fun K' _ A => full_nil A,
    fun w K S => S.ref1 fun K' T => T.ask fun a b T => rfull_nil T⟩
theorem bb_used (S : BB w0 w hp cp gp sp K L1 L2) : Calls Tryz.prog 20 #[ptr hp] w fun r w' => r = .returned (.int .i64 (used L1 : Nat)) ∧ BB w0 w' hp cp gp sp K L1 L2 :=
 S.prg1 sysQ sysQ_ok (Nat.le_refl 2) fun _K' _ A => (at_used A (List.mem_singleton.2 rfl)).mono fun _r _w' h => ⟨h.1, h.2 ▸ A⟩
theorem bb_rused (S : BB w0 w hp cp gp sp K L1 L2) : Calls Tryz.prog 21 #[ptr gp] w fun r w' => r = .returned (.int .i64 (used L2 : Nat)) ∧ BB w0 w' hp cp gp sp K L1 L2 :=
 S.ref1 fun _K' T => T.ask fun _a _b T => T.ask fun _E H A => rused_any H A (fun _q hq => List.mem_append_left _ hq)
end
end
section
theorem tells_okB {t : Tok} (h : TokOk t) : TokB t := by
 obtain ⟨h1, -, h3, -⟩ := h
 have e1 : IntKind.i64.min = -9223372036854775808 := by decide
 have e2 : IntKind.i64.max = 9223372036854775807 := by decide
 simp only [Lit.wf, Bool.and_eq_true, decide_eq_true_eq, e1, e2] at h1; unfold maxLen at h3; unfold TokB; omega
section
variable {w0 w w' : World} {hp cp gp sp : Nat} {K K' : List (Nat × Obj)} {L L1 L1' L2 L2' : List C}
theorem BB.toA (S : BB w0 w hp cp gp sp K L1 L2) : ∃ KA ga gc, Ats w0 w [(hp, L1)] KA ∧ (gp, refBox (.slice ga L2.length gc)) ∈ KA ∧ (∀ q ∈ K, q ∈ KA) ∧ ∀ W, Ats w0 W [(hp, L1)] KA → BB w0 W hp cp gp sp K L1 L2 := by
 obtain ⟨g, cap, cur, h1, h2, h3, h4, g2, cap2, cur2, k1, k2, k3, k4, E, H, A⟩ := S; obtain ⟨lv, hb, hrow⟩ := H.parts
 obtain ⟨ga, gc, rfl⟩ : ∃ ga gc, lv = .slice ga L2.length gc := by
  rcases hrow with ⟨rfl, rfl⟩ | ⟨g, cap, cur, rfl, -⟩
  · exact ⟨_, _, rfl⟩
  · exact ⟨_, _, rfl⟩
 exact ⟨_, ga, gc, A, List.mem_append_left _ hb, fun q hq => by simp [hq], fun W A' => ⟨g, cap, cur, h1, h2, h3, h4, g2, cap2, cur2, k1, k2, k3, k4, E, H, A'⟩⟩
def STA (w0 : World) (hp : Nat) (L1 : List C) (KA : List (Nat × Obj)) (W : World) : Prop := Ats w0 W [(hp, L1)] KA
theorem STA.drew {KA : List (Nat × Obj)} (h : STA w0 hp L1 KA w) : STA w0 hp L1 KA w.drew := Ats.drew h
theorem STA.cells {KA : List (Nat × Obj)} {g : Nat} {cs : Array Value} {T : TypeId} {fz : Nat × Nat} (hm : (g, Obj.cells cs T fz) ∈ KA) : ∀ W, STA w0 hp L1 KA W → ∀ i, W.cell? ⟨g, i, none⟩ = cs[i]? := by
 intro W A i; exact cells_of (Ats.box A _ hm) i
def STB (w0 : World) (hp cp gp sp : Nat) (L : List C) (K : List (Nat × Obj)) (W : World) : Prop := BB w0 W hp cp gp sp K L L
theorem STB.drew (h : STB w0 hp cp gp sp L K w) : STB w0 hp cp gp sp L K w.drew := BB.drew h
theorem STB.cells {g : Nat} {cs : Array Value} {T : TypeId} {fz : Nat × Nat} (hm : (g, Obj.cells cs T fz) ∈ K) : ∀ W, STB w0 hp cp gp sp L K W → ∀ i, W.cell? ⟨g, i, none⟩ = cs[i]? := by
 intro W S i; exact cells_of (BB.box S _ hm) i
end
set_option maxRecDepth 100000 in
set_option maxHeartbeats 16000000 in
theorem buildTells_in (a : Option Addr) (c : Nat) (l : List Tok) (n : Nat) (hn : l.length = n) (w : World) (hv : ToksAt w (.slice a n c) l) (hok : ∀ t ∈ l, TokB t) (hl : n ≤ 60) (s : ByteArray) (hs : s.size ≤ 100) :
 Calls Tryz.prog 3 #[.slice a n c, .string s] w fun e w' => e = .returned (.bool true) ∧ Chg NoB w w' := by
 have HKN := hid' (known22_pl w); have HSZ := hid' hs
 have hn60 : ¬ (60 : Int) < n := by omega
 have hs100 : ¬ (100 : Int) < s.size := by omega
 have HCAP : Hid (∀ i, i < n → (∃ b off, a = some ⟨b, off, none⟩ ∧ b < w.heap.size ∧ ∀ (i : Nat) (t : Tok), l[i]? = some t → TokC w b (off + i * 4) t) ∧ n ≤ c) := hid' (fun i hi => by
  obtain ⟨a', c', he, hc, hr⟩ := hv; simp only [Value.slice.injEq] at he; obtain ⟨rfl, h1, rfl⟩ := he
  exact ⟨hr (by omega), by omega⟩)
 obtain ⟨L1, os, a1, e1, ho⟩ : ∃ L1 os a1 e1, objsB (lookL (dQ s)) (hQ (dQ s)) l = (L1, os, a1, e1) := ⟨_, _, _, _, rfl⟩
 obtain ⟨L2, x, a2, e2, hpr⟩ : ∃ L2 x a2 e2, progB (lookL (dQ s)) L1 l = (L2, x, a2, e2) := ⟨_, _, _, _, rfl⟩
 have hdl : (hQ (dQ s)).length ≤ 2000 := by rw [hdQ_len]; decide
 have hdu : used (hQ (dQ s)) ≤ 40000 := by rw [dQ_used]; decide
 have hdx : ∃ X, hQ (dQ s) = hQ (dQ s) ++ X := ⟨[], (List.append_nil _).symm⟩
 obtain ⟨hX1, hL1, hU1, -⟩ := objs_pre (goodF_d s) (hQ (dQ s)) hdl hdu l (by omega) ho
 have hos : os.length ≤ 100000 := by
  rcases objs_tree (goodF_d s) (hQ (dQ s)) hdl hdu l (by omega) with ⟨L', os', h1, -, -, -, -, h6⟩ | ⟨L', a', e', h1, -⟩
  · rw [ho] at h1; simp only [Prod.mk.injEq] at h1; obtain ⟨-, rfl, -⟩ := h1; omega
  · rw [ho] at h1; simp only [Prod.mk.injEq] at h1; obtain ⟨-, rfl, -⟩ := h1; simp
 have HO1 := hid' (fun hp cp gp sp K W (S : BB w W hp cp gp sp K (hQ (dQ s)) (hQ (dQ s))) => bb_objs S hdx hdl hdu hn hl hv hok ho); have HO2 := hid' (fun hp cp gp sp K W (S : BB w W hp cp gp sp K L1 (hQ (dQ s))) => bb_robjs S hdx hdl hdu hn hl hv hok ho); have HP1 := hid' (fun hp cp gp sp K W (S : BB w W hp cp gp sp K L1 L1) => bb_prog S hX1 hL1 hU1 hn hl hv hok hpr); have HP2 := hid' (fun hp cp gp sp K W (S : BB w W hp cp gp sp K L2 L1) => bb_rprog S hX1 hL1 hU1 hn hl hv hok hpr); have HTL := hid' (fun hp cp gp sp => tail_any s w hp cp gp sp hX1 hL1 hU1 (by omega : l.length ≤ 60) hpr); have HD1 := hid' (fun hp cp gp sp K W (S : BB w W hp cp gp sp K (hQ sysQ) (hQ sysQ)) => bb_def S hs); have HD2 := hid' (fun hp cp gp sp K W (S : BB w W hp cp gp sp K (hQ (dQ s)) (hQ sysQ)) => bb_rdef S hs); generalize hQ (dQ s) = D at *; have HN := hid' hn; have HOS := hid' hos; clear hv hok hn hs ho hpr hdl hdu hdx hX1 hL1 hU1 hos HSZ; go_enter Tryz.func3, Tryz.ntmps3
 go_wp2_with fail
 refine HKN.out.mono ?_; rintro e w1 ⟨rfl, X1⟩; clear HKN; go_wp2_with fail
 refine (at_hnew (Ats.start X1)).mono ?_; rintro e w2 ⟨hp, rfl, A0⟩; have A1 := A0.alloc (refBox (.slice none 0 0)); clear A0 X1; generalize hg : w2.heap.size = gp at *
 go_upto_region 6 with (fail)
 generalize hW : w2.alloc _ = w3 at *; clear hW hg; go_wp2_with fail
 refine (q_new A1).mono ?_; rintro e w4 ⟨cp, rfl, S1⟩; clear A1; have HNW := hid' (bb_new S1); clear S1; go_wp2_with fail
 refine HNW.out.mono ?_; rintro e w5 ⟨sp, rfl, S2⟩; clear HNW; have HC := hid' (HD1.out _ _ _ _ _ _ S2); clear S2 HD1; go_wp2_with fail
 refine HC.out.mono ?_; rintro e w6 ⟨rfl, S3⟩; clear HC; have HC := hid' (HD2.out _ _ _ _ _ _ S3); clear S3 HD2; go_wp2_with fail
 refine HC.out.mono ?_; rintro e w7 ⟨rfl, S4⟩; clear HC; go_wp2_with fail
 go_loopw [11] (fun iv wr => ∃ i : Nat, i ≤ n ∧ iv = .int .i64 i ∧ BB w wr hp cp gp sp [] D D) (fun iv _ => n - (intOf iv).toNat)
 case atStart => exact ⟨0, Nat.zero_le _, rfl, S4⟩
 case round =>
 obtain ⟨i, hin, rfl, S5⟩ := hrel; clear S4
 by_cases hlt : i < n
 · have dl : (i : Int) < n := by omega
   have di : (0 : Int) ≤ i := by omega
   have vi := IntWalk.i64_in ((i : Int) + 1) (by omega); obtain ⟨⟨b, off, rfl, hbl, hcell⟩, hcap⟩ := HCAP.out i hlt
   have hcn : (n : Int) ≤ c := by omega
   obtain ⟨t, ht⟩ : ∃ t, l[i]? = some t := ⟨l[i]'(by rw [HN.out]; exact hlt), List.getElem?_eq_getElem _⟩
   obtain ⟨c1, c2, c3, c4⟩ := (hcell i t ht).pure S5.chg; have bl : b < wr.heap.size := Nat.lt_of_lt_of_le hbl S5.chg.size; obtain ⟨tk, tn, ts, tp⟩ := t; simp only at c1 c2 c3 c4; clear hcell ht HCAP; have HS := hid' S5; clear S5
   by_cases h5 : (5000 : Int) < ts.size
   · go_wp2_with fail
     go_ret; exact ⟨rfl, HS.out.chg⟩
   · go_wp2_with fail
     go_roundw
     case rel => exact ⟨i + 1, by omega, by go_num, HS.out⟩
     case measure => simp [intOf]; omega
 · obtain rfl : i = n := by omega
   have dl : ¬ (i : Int) < i := by omega
   have HC := hid' (HO1.out _ _ _ _ _ _ S5); clear S5 HO1 HCAP hlt; go_wp2_with fail
   refine HC.out.mono ?_; rintro e w8 ⟨R1, ⟨v1, rfl, hR1⟩, S6⟩; clear HC; have HC := hid' (HO2.out _ _ _ _ _ _ S6); clear S6 HO2; go_wp2_with fail
   refine HC.out.mono ?_; rintro e w9 ⟨R2, ⟨v2, rfl, hR2⟩, S7⟩; clear HC; obtain ⟨KA, ga, gc, A7, hgb, hKA, hback⟩ := S7.toA
   have HSM : Hid (∀ W, STA w hp L1 KA W → Calls Tryz.prog 12 #[v1, v2] W fun r w' => r = .returned (.bool true) ∧ STA w hp L1 KA w') := hid' (fun W A => by
    have S := hback W A; have hb2 := BB.rowOf S hR2
    have hb1 := BB.rowOf (R := R1) (K := R2) (S.perm (by
     classical refine List.perm_iff_count.2 fun q => ?_
     simp only [List.count_append, List.count_nil]
     omega)) hR1
    exact (same_rows W v1 v2 os.length os rfl HOS.out hb1 hb2).mono fun r w' h => ⟨h.1, Ats.pure A h.2⟩)
   have HCE : Hid (∀ W, STA w hp L1 KA W → Calls Tryz.prog 13 #[ptr hp] W fun r w' => r = .returned (.int .i64 (L1.length : Nat)) ∧ STA w hp L1 KA w') := hid' (fun W A => (at_cells A (List.mem_singleton.2 rfl)).mono fun r w' h => ⟨h.1, h.2 ▸ A⟩); have HBK : Hid (∀ W, STA w hp L1 KA W → BB w W hp cp gp sp (R2 ++ (R1 ++ [])) L1 L1) := hid' hback; have QG := STA.cells (w0 := w) (hp := hp) (L1 := L1) hgb; have yg := blk_lt (A7.box _ hgb); simp only at yg; have F0 : STA w hp L1 KA w9 := A7; clear A7 hback hKA S7 hR1 hR2 HOS
   go_upto_region 17 with (fail)
   go_region_held3 (fun W' => STA w hp L1 KA W') (first | (with_reducible assumption) | (with_reducible exact STA.drew (by with_reducible assumption)))
    (first | (go_at_call 12; refine (HSM.out _ (by first | (with_reducible assumption) | (with_reducible exact STA.drew (by with_reducible assumption)))).mono ?_; rintro r wb ⟨rfl, F1⟩) | (go_at_call 13; refine (HCE.out _ (by first | (with_reducible assumption) | (with_reducible exact STA.drew (by with_reducible assumption)))).mono ?_; rintro r wc ⟨rfl, F2⟩))
   have S8 := (HBK.out _ F2).keep (K' := []) (by simp); clear HSM HCE HBK QG yg F0 F1 F2; have HC := hid' (HP1.out _ _ _ _ _ _ S8); clear S8 HP1; go_wp2_with fail
   refine HC.out.mono ?_; rintro e w10 ⟨rfl, S9⟩; clear HC; obtain ⟨rn, re, LB, tx, T1, T2, T3, T4⟩ := HTL.out hp cp gp sp; have HT1 := hid' T1; have HT2 := hid' T2; have HT3 := hid' T3; have HT4 := hid' T4; have qe := eqO_self x; clear HTL T1 T2 T3 T4; obtain ⟨xk, xe, xn, xp, xl, xs⟩ := x; have S10 := S9.alloc (Obj.cells #[.int .i64 xk, .bool xe, .int .i64 xn, .int .i64 xp, .int .i64 xl, .string xs] 39); generalize hg : w10.heap.size = b18 at *
   go_upto_region 20 with (fail)
   generalize hW : w10.alloc _ = w11 at *; clear hW hg S9; have HC := hid' (HP2.out _ _ _ _ _ _ S10); clear HP2 S10; go_wp2_with fail
   refine HC.out.mono ?_; rintro e w12 ⟨rfl, S11⟩; clear HC; have S12 := S11.alloc (Obj.cells #[.int .i64 xk, .bool xe, .int .i64 xn, .int .i64 xp, .int .i64 xl, .string xs] 39); generalize hg : w12.heap.size = b21 at *
   go_upto_region 21 with (fail)
   generalize hW : w12.alloc _ = w13 at *; clear hW hg S11
   obtain ⟨KX, hKX⟩ : ∃ KX : List (Nat × Obj), KX = [(b21, Obj.cells #[.int .i64 xk, .bool xe, .int .i64 xn, .int .i64 xp, .int .i64 xl, .string xs] 39), (b18, Obj.cells #[.int .i64 xk, .bool xe, .int .i64 xn, .int .i64 xp, .int .i64 xl, .string xs] 39)] := ⟨_, rfl⟩
   have m21 : (b21, Obj.cells #[.int .i64 xk, .bool xe, .int .i64 xn, .int .i64 xp, .int .i64 xl, .string xs] 39) ∈ KX := by rw [hKX]; simp
   have m18 : (b18, Obj.cells #[.int .i64 xk, .bool xe, .int .i64 xn, .int .i64 xp, .int .i64 xl, .string xs] 39) ∈ KX := by rw [hKX]; simp
   rw [← hKX] at S12; clear hKX
   (try clear Rx); (try clear yx); (try clear Zx)
   have Rx := cells_of (S12.box _ m18); have yx := blk_lt (S12.box _ m18)
   (try simp only at Rx yx)
   have HC := hid' (HT1.out _ _ S12); have HS12 := hid' S12; clear S12 HT1; go_wp2_with fail
   refine HC.out.mono ?_; rintro e w14 ⟨rfl, S13⟩; clear HC HS12 Rx yx
   (try clear Ry); (try clear yy); (try clear Zy)
   have Ry := cells_of (S13.box _ m21); have yy := blk_lt (S13.box _ m21)
   (try simp only at Ry yy)
   have HC := hid' (HT2.out _ _ S13); have HS13 := hid' S13; clear S13 HT2; go_wp2_with fail
   refine HC.out.mono ?_; rintro e w15 ⟨rfl, S14⟩; clear HC HS13 Ry yy; have HFP : Hid (∀ W, STB w hp cp gp sp LB KX W → Calls Tryz.prog 18 #[ptr hp, O.val ⟨xk, xe, xn, xp, xl, xs⟩] W fun r w' => r = .returned (.string tx) ∧ STB w hp cp gp sp LB KX w') := hid' (fun W S => HT3.out W KX S); have HFR : Hid (∀ W, STB w hp cp gp sp LB KX W → Calls Tryz.prog 19 #[ptr gp, O.val ⟨xk, xe, xn, xp, xl, xs⟩] W fun r w' => r = .returned (.string tx) ∧ STB w hp cp gp sp LB KX w') := hid' (fun W S => HT4.out W KX S); have HUP : Hid (∀ W, STB w hp cp gp sp LB KX W → Calls Tryz.prog 20 #[ptr hp] W fun r w' => r = .returned (.int .i64 (used LB : Nat)) ∧ STB w hp cp gp sp LB KX w') := hid' (fun W S => bb_used S); have HUR : Hid (∀ W, STB w hp cp gp sp LB KX W → Calls Tryz.prog 21 #[ptr gp] W fun r w' => r = .returned (.int .i64 (used LB : Nat)) ∧ STB w hp cp gp sp LB KX w') := hid' (fun W S => bb_rused S); have Q21 := STB.cells (w0 := w) (hp := hp) (cp := cp) (gp := gp) (sp := sp) (L := LB) m21; have Q18 := STB.cells (w0 := w) (hp := hp) (cp := cp) (gp := gp) (sp := sp) (L := LB) m18; have y21 := blk_lt (S14.box _ m21); have y18 := blk_lt (S14.box _ m18); simp only at y21 y18; have F0 : STB w hp cp gp sp LB KX w15 := S14; clear S14 HT3 HT4 m21 m18; generalize ((used LB : Nat) : Int) = U at *
   go_upto_region 23 with (fail)
   go_region_held3 (fun W' => STB w hp cp gp sp LB KX W') (first | (with_reducible assumption) | (with_reducible exact STB.drew (by with_reducible assumption)))
    (first | (go_at_call 18; refine (HFP.out _ (by first | (with_reducible assumption) | (with_reducible exact STB.drew (by with_reducible assumption)))).mono ?_; rintro r wb ⟨rfl, F1⟩) | (go_at_call 19; refine (HFR.out _ (by first | (with_reducible assumption) | (with_reducible exact STB.drew (by with_reducible assumption)))).mono ?_; rintro r wc ⟨rfl, F2⟩) | (go_at_call 20; refine (HUP.out _ (by first | (with_reducible assumption) | (with_reducible exact STB.drew (by with_reducible assumption)))).mono ?_; rintro r wd ⟨rfl, F3⟩) | (go_at_call 21; refine (HUR.out _ (by first | (with_reducible assumption) | (with_reducible exact STB.drew (by with_reducible assumption)))).mono ?_; rintro r we ⟨rfl, F4⟩))
   go_wp2_with fail
   go_ret; exact ⟨rfl, BB.chg F4⟩
end
set_option maxRecDepth 100000 in
theorem buildTells_any (va : Value) (l : List Tok) (s : ByteArray) (w : World) (wa : ToksIn w va l) (_ws : s.size ≤ maxLen) :
 Calls Tryz.prog 3 #[va, .string s] w fun e w' => e = .returned (.bool true) ∧ Chg NoB w w' := by
 obtain ⟨hv, hln, hok⟩ := wa
 obtain ⟨a, c, rfl⟩ : ∃ a c, va = .slice a l.length c := by
  obtain ⟨a, c, h, -⟩ := hv; exact ⟨a, c, h⟩
 by_cases hz : l.length ≤ 60
 · by_cases hs : s.size ≤ 100
   · exact buildTells_in a c l l.length rfl w hv (fun t ht => tells_okB (hok t ht)) hz s hs
   · have HKN := hid' (known22_pl w)
     have d0 : decide ((60 : Int) < l.length) = false := by simp; omega
     have d1 : decide ((100 : Int) < s.size) = true := by simp; omega
     clear hz hs hv hln hok; go_enter Tryz.func3, Tryz.ntmps3
     go_wp2_with fail
     refine HKN.out.mono ?_; rintro r w1 ⟨rfl, X1⟩; go_wp2_with fail
     go_ret; exact ⟨rfl, X1⟩
 · have HKN := hid' (known22_pl w)
   have d1 : decide ((60 : Int) < l.length) = true := by simp; omega
   clear hz hv hln hok; go_enter Tryz.func3, Tryz.ntmps3
   go_wp2_with fail
   refine HKN.out.mono ?_; rintro r w1 ⟨rfl, X1⟩; go_wp2_with fail
   go_ret; exact ⟨rfl, X1⟩
end Go.Proofs.YtoogmimbmgdflaaGreat
