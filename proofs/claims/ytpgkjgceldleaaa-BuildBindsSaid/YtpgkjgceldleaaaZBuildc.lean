/- Ubp, Ubk, Ubl -/
import Derived.Test.YtpgkjgceldleaaaZBuilda
import Derived.Test.YtpgkjgceldleaaaZSeqj
import Derived.Test.YtpgkjgceldleaaaZScpc
import Derived.Test.YtpgkjgceldleaaaZBuildb
import Derived.Test.YtpgkjgceldleaaaZSayc
import Derived.Test.YtpgkjgceldleaaaZTokc
/- Build, plain: arrays of words; procedures within one another. -/
namespace Go.Proofs.Ytpgkjgceldleaaa
open Go.RowKit

abbrev arX (N z : Int) : O := ⟨9, true, N, 0, z, ⟨#[]⟩⟩
theorem mayO_arX (N z : Int) (h0 : 0 ≤ N) (h1 : N ≤ 40000) (hz : 0 ≤ z) (hz' : z ≤ 40000) : mayO (arX N z) = true := by
  simp [mayO, eqO, bareO, O.nil]; omega
/-- What may be may be behind more cells. -/
theorem mayH_app {L : List C} {o : O} (Y : List C) (h : mayH L o = true) : mayH (L ++ Y) o = true := by
  unfold mayH at h ⊢
  rw [Bool.and_eq_true] at h ⊢
  refine ⟨h.1, ?_⟩
  have h2 := h.2
  cases hh : held o with
  | false => rfl
  | true =>
    rw [hh] at h2
    simp only [Bool.not_true, Bool.false_or, Bool.and_eq_true, decide_eq_true_eq] at h2 ⊢
    obtain ⟨h3, h4⟩ := h2
    cases hc : L[o.n.toNat]? with
    | none => rw [hc] at h4; simp at h4
    | some c =>
      rw [hc] at h4
      have hl := (List.getElem?_eq_some_iff.1 hc).1
      rw [List.getElem?_append_left hl, hc]
      refine ⟨by rw [List.length_append]; omega, h4⟩
theorem may_arX {L : List C} {N : Nat} {is : List O} (hc : L[N]? = some (rowC is)) (hN : N ≤ 40000) (hs : is.length ≤ 40000) (z : Int) (hz : z = is.length) : mayH L (arX N z) = true := by
  have hl := (List.getElem?_eq_some_iff.1 hc).1
  unfold mayH
  rw [mayO_arX N z (by omega) (by omega) (by omega) (by omega)]
  simp [held, hc, C.kind, C.size]
  omega
theorem items_arX {L : List C} {N : Nat} {is : List O} (hc : L[N]? = some (rowC is)) (hN : N ≤ 40000) (hs : is.length ≤ 40000) (z : Int) (hz : z = is.length) : itemsH L (arX N z) = (is, 0) := by
  subst hz
  unfold itemsH
  have : findE L (arX N is.length) = 0 := by simp [findE, may_arX hc hN hs _ rfl, held]
  rw [this]
  simp [lenOf, atOf, hc]
theorem setsB_row (L : List C) (xs : List O) (hL : L.length < 2000) (hx : xs.length ≤ 40000) (hm : ∀ x ∈ xs, mayH L x = true) : ∀ j, j ≤ xs.length → setsB (L ++ [rowC (List.replicate xs.length nullO)]) (arN L.length xs.length) xs j = L ++ [rowC (filled xs xs.length j)] := by
  intro j
  induction j with
  | zero => intro _; rw [filled_none]; rfl
  | succ j ih =>
    intro hj
    rw [setsB_succ, ih (by omega)]
    have ho : xs[j]? = some (xs.getD j O.nil) := by rw [List.getD_eq_getElem?_getD, List.getElem?_eq_getElem (by omega)]; rfl
    have hf := filled_length xs xs.length j rfl (by omega)
    rw [set_a (L := L ++ [rowC (filled xs xs.length j)]) (N := L.length) (is := filled xs xs.length j) (by rw [List.getElem?_append_right (Nat.le_refl _), Nat.sub_self]; rfl) (by omega) (by omega) _ (by rw [hf]) j (by omega) _ (mayH_app _ (hm _ (List.mem_of_getElem? ho)))]
    simp only
    rw [set_last, filled_set xs xs.length j rfl _ ho]
theorem arrB_ok (L : List C) (xs : List O) (hL : L.length < 2000) (hu : used L + xs.length ≤ 40000) (hm : ∀ x ∈ xs, mayH L x = true) : arrB L xs = (L ++ [rowC xs], arX L.length xs.length, 0) := by
  unfold arrB
  rw [array_a L xs.length hL hu]
  simp only [if_true]
  rw [setsB_row L xs hL (by omega) hm _ (Nat.le_refl _), filled_all _ _ rfl]
theorem used_row (L : List C) (xs : List O) : used (L ++ [rowC xs]) = used L + xs.length := by
  rw [used_cat']
  simp [used, C.size]
theorem sysQ_used8 : used (hQ sysQ) = 726 := by
  have h1 : hQ sysQ = [dcellk true (sysK 162) 162] ++ [dcellk false [] 200] := by simp [hQ, sysQ]
  rw [h1, used_cat', used_dc _ _ _ (by rw [sysK_length]; decide), used_dc _ _ _ (by simp)]
theorem sysQ_len8 : (hQ sysQ).length = 2 := by rw [hQ, List.length_map]; rfl
/-- No name stands for anything. -/
def noF (_ : List C) (_ : ByteArray) : O × Int := (O.nil, 9)
/-! ### Procedures within one another -/
abbrev tkI (i : Int) : Tok := ⟨1, i, ⟨#[]⟩, 0⟩
abbrev tkO : Tok := ⟨7, 0, ⟨#[]⟩, 0⟩
abbrev tkC : Tok := ⟨8, 0, ⟨#[]⟩, 0⟩
theorem mayT_I (i : Int) (h0 : 0 ≤ i) (h1 : i ≤ 1000) : mayT (tkI i) = true := by
  unfold mayT
  rw [if_pos rfl, decide_eq_true (show (⟨#[]⟩ : ByteArray).size = 0 from rfl), decide_eq_true (show -2147483647 ≤ i by omega), decide_eq_true (show i ≤ 2147483647 by omega)]
  rfl
theorem mayT_O : mayT tkO = true := by decide +kernel
theorem mayT_C : mayT tkC = true := by decide +kernel
/-- k numbers, each with a procedure that begins behind it. -/
def deepT (k : Nat) : List Tok := (List.range k).flatMap fun (i : Nat) => [tkI i, tkO]
theorem deepT_succ (k : Nat) : deepT (k + 1) = deepT k ++ [tkI k, tkO] := by simp [deepT, List.range_succ]
theorem deepT_length (k : Nat) : (deepT k).length = 2 * k := by
  induction k with
  | zero => rfl
  | succ k ih => rw [deepT_succ, List.length_append, ih]; simp; omega
def lsD (k : Nat) : List (List O) := (List.range k).reverse.map fun (i : Nat) => [iO i]
def bgD (k : Nat) : List Int := (List.range k).reverse.map fun (i : Nat) => 2 * (i : Int) + 1
theorem lsD_succ (k : Nat) : lsD (k + 1) = [iO k] :: lsD k := by simp [lsD, List.range_succ]
theorem bgD_succ (k : Nat) : bgD (k + 1) = (2 * (k : Int) + 1) :: bgD k := by simp [bgD, List.range_succ]
theorem bgD_length (k : Nat) : (bgD k).length = k := by simp [bgD]
theorem runO_app (F : List C → ByteArray → O × Int) (ts us : List Tok) : ∀ (i : Int) (s s' : OSt), runO F i ts s = .inl s' → runO F i (ts ++ us) s = runO F (i + ts.length) us s' := by
  induction ts with
  | nil =>
    intro i s s' h
    simp only [runO, Sum.inl.injEq] at h
    subst h
    simp
  | cons t ts ih =>
    intro i s s' h
    simp only [runO, List.cons_append] at h ⊢
    cases hs : stepO F i t s with
    | inr e => rw [hs] at h; simp at h
    | inl s2 =>
      rw [hs] at h
      simp only at h ⊢
      rw [ih _ _ _ h, List.length_cons]
      congr 1
      omega
/-- Behind k of them, k up to 20. -/
theorem deep_run (L : List C) (k : Nat) (hk : k ≤ 20) : runO noF 0 (deepT k) (L, [[]], []) = .inl (L, [] :: lsD k, bgD k) := by
  induction k with
  | zero => rfl
  | succ k ih =>
    rw [deepT_succ, runO_app _ _ _ _ _ _ (ih (by omega)), deepT_length]
    simp only [runO]
    rw [step_leaf (l0 := []) (mayT_I k (by omega) (by omega)) (by decide) (by decide) leaf_1]
    simp only
    rw [step_open mayT_O (by rw [bgD_length]; omega)]
    simp only
    rw [lsD_succ, bgD_succ]
    congr 4
    simp
theorem deep_one (L : List C) (k : Nat) (hk : k ≤ 20) : objsB noF L (deepT k) = (L, [], if k = 0 then 0 else 2 * (k : Int) - 1, if k = 0 then 0 else 4) := by
  unfold objsB
  rw [deep_run L k hk]
  cases k with
  | zero => rfl
  | succ k =>
    rw [bgD_succ]
    simp
    omega
/-- More than 20 of them, whatever comes behind. -/
theorem deep_many (L : List C) (k : Nat) (hk : 20 < k) (us : List Tok) : objsB noF L (deepT k ++ us) = (L, [], 41, 5) := by
  have h21 : ∃ vs, deepT k = deepT 21 ++ vs := by
    obtain ⟨m, rfl⟩ : ∃ m, k = 21 + m := ⟨k - 21, by omega⟩
    induction m with
    | zero => exact ⟨[], by simp⟩
    | succ m ih =>
      rcases Nat.eq_zero_or_pos m with rfl | hm
      · exact ⟨[tkI (21 : Nat), tkO], deepT_succ 21⟩
      · obtain ⟨vs, hvs⟩ := ih (by omega)
        exact ⟨vs ++ [tkI ((21 + m : Nat) : Int), tkO], by rw [← List.append_assoc, ← hvs, ← deepT_succ]; rfl⟩
  obtain ⟨vs, hvs⟩ := h21
  have h : runO noF 0 (deepT 21) (L, [[]], []) = .inr (L, 41, 5) := by
    rw [deepT_succ, runO_app _ _ _ _ _ _ (deep_run L 20 (Nat.le_refl _)), deepT_length]
    simp only [runO]
    rw [step_leaf (l0 := []) (mayT_I _ (by omega) (by omega)) (by decide) (by decide) leaf_1]
    simp only
    rw [step_full mayT_O (by rw [bgD_length])]
    rfl
  unfold objsB
  rw [hvs, List.append_assoc, runO_err _ _ _ _ _ _ h]
/-- Behind j of the ends of k procedures. -/
def DeepQ (L0 : List C) (k j : Nat) (s : OSt) : Prop :=
  ∃ top, s.2.1 = top :: lsD (k - j) ∧ s.2.2 = bgD (k - j) ∧ s.1.length = L0.length + j ∧ used s.1 ≤ used L0 + 2 * j ∧ (∀ x ∈ top, mayH s.1 x = true) ∧
    ((j = 0 ∧ top = []) ∨ (0 < j ∧ ∃ N z, top = [iO ((k - j : Nat) : Int), arX N z]))
theorem DeepQ.top_le {k j : Nat} {top : List O} (h : (j = 0 ∧ top = []) ∨ (0 < j ∧ ∃ N z, top = [iO ((k - j : Nat) : Int), arX N z])) : top.length ≤ 2 := by
  rcases h with ⟨-, rfl⟩ | ⟨-, N, z, rfl⟩ <;> simp
theorem deep_shut (L0 : List C) (k : Nat) (hk : k ≤ 20) (hL : L0.length ≤ 500) (hu : used L0 ≤ 20000) : ∀ j, j ≤ k → ∃ s, runO noF 0 (deepT k ++ List.replicate j tkC) (L0, [[]], []) = .inl s ∧ DeepQ L0 k j s := by
  intro j
  induction j with
  | zero =>
    intro _
    refine ⟨(L0, [] :: lsD k, bgD k), ?_, [], rfl, rfl, by simp, by simp, by simp, .inl ⟨rfl, rfl⟩⟩
    rw [List.replicate_zero, List.append_nil, deep_run L0 k hk]
  | succ j ih =>
    intro hj
    obtain ⟨⟨L, ls, bg⟩, hr, top, h1, h2, h3, h4, h5, h6⟩ := ih (by omega)
    simp only at h1 h2 h3 h4 h5
    have htop : top.length ≤ 2 := DeepQ.top_le h6
    obtain ⟨m, hm⟩ : ∃ m, k - j = m + 1 := ⟨k - j - 1, by omega⟩
    have hm2 : k - (j + 1) = m := by omega
    have ha := arrB_ok L top (by omega) (by omega) h5
    rw [hm, lsD_succ] at h1
    rw [hm, bgD_succ] at h2
    subst h1 h2
    refine ⟨(L ++ [rowC top], ([iO m] ++ [arX L.length top.length]) :: lsD m, bgD m), ?_, [iO m, arX L.length top.length], by rw [hm2]; rfl, by rw [hm2], by simp; omega, by rw [used_row]; omega, ?_, .inr ⟨by omega, _, _, by rw [hm2]⟩⟩
    · rw [List.replicate_succ', ← List.append_assoc, runO_app _ _ _ _ _ _ hr]
      simp only [runO]
      rw [step_shut mayT_C ha]
      rfl
    · intro x hx
      simp only [List.mem_cons, List.not_mem_nil, or_false] at hx
      rcases hx with rfl | rfl
      · exact may_num _ _ (by omega) (by omega)
      · exact may_arX (is := top) (by rw [List.getElem?_append_right (Nat.le_refl _), Nat.sub_self]; rfl) (by omega) (by omega) _ rfl
/-- All of them shut. -/
theorem deep_two (L0 : List C) (k : Nat) (h0 : 0 < k) (hk : k ≤ 20) (hL : L0.length ≤ 500) (hu : used L0 ≤ 20000) :
    ∃ L N z, objsB noF L0 (deepT k ++ List.replicate k tkC) = (L, [iO 0, arX N z], 0, 0) ∧ L.length ≤ L0.length + 20 ∧ used L ≤ used L0 + 40 := by
  obtain ⟨⟨L, ls, bg⟩, hr, top, h1, h2, h3, h4, h5, h6⟩ := deep_shut L0 k hk hL hu k (Nat.le_refl _)
  rcases h6 with ⟨e, -⟩ | ⟨-, N, z, rfl⟩
  · omega
  · simp only [Nat.sub_self] at h1 h2 h3 h4
    subst h1 h2
    refine ⟨L, N, z, ?_, by omega, by omega⟩
    unfold objsB
    rw [hr]
    simp [bgD]
/-- One end more. -/
theorem deep_three (L0 : List C) (k : Nat) (hk : k ≤ 20) (hL : L0.length ≤ 500) (hu : used L0 ≤ 20000) :
    ∃ L, objsB noF L0 (deepT k ++ List.replicate k tkC ++ [tkC]) = (L, [], 3 * (k : Int), 3) := by
  obtain ⟨⟨L, ls, bg⟩, hr, top, h1, h2, h3, h4, h5, h6⟩ := deep_shut L0 k hk hL hu k (Nat.le_refl _)
  simp only [Nat.sub_self] at h1 h2
  subst h1 h2
  refine ⟨L, ?_⟩
  unfold objsB
  rw [runO_app _ _ _ _ _ _ hr]
  simp only [runO]
  rw [show bgD 0 = [] from rfl, step_bare mayT_C]
  simp only [List.length_append, deepT_length, List.length_replicate]
  congr 4
  omega
end Go.Proofs.Ytpgkjgceldleaaa
/- known of tympanlaw22. -/
namespace Go.Proofs.Ytpgkjgceldleaaa
open Go.RowKit

/-- A row made by a callee, among the boxes. -/
theorem Ats.ofOwnsB {w0 w1 w2 : World} {M : List (Nat × List C)} {K : List (Nat × Obj)} {T : TypeId} {sz : Nat} {v : Value} {n : Nat} {xs : List Value} (A : Ats w0 w1 M K) (X : Chg NoB w1 w2) (own : w2.ownsRow w1.heap.size T sz v n xs) : ∃ R, RowG T sz R v n xs ∧ Ats w0 w2 M (R ++ K) := by
  obtain ⟨hl, ⟨rfl, h0⟩ | ⟨g, cap, cur, rfl, hg0, hg, c1, c2, c3, c4⟩⟩ := own
  · subst h0
    exact ⟨[], .inl ⟨rfl, rfl, List.eq_nil_of_length_eq_zero (by simpa using hl), rfl⟩, A.pure X⟩
  · exact ⟨[(g, .cells cur T)], .inr ⟨g, cap, cur, rfl, rfl, c1, c2, c3, c4, hl⟩, A.got X hg hg0⟩
/-- A slice of words among the boxes. -/
theorem toksG {R : List (Nat × Obj)} {v : Value} {l : List Tok} (h : RowG 31 4 R v l.length (toksV l)) {w0 W : World} {M : List (Nat × List C)} {E K : List (Nat × Obj)} (A : Ats w0 W M (E ++ (R ++ K))) : ToksAt W v l :=
  ToksAt.of_own ((A.perm (K' := R ++ (E ++ K)) (by
    classical refine List.perm_iff_count.2 fun q => ?_
    simp only [List.count_append]
    omega)).ownsG h)
abbrev k22 : ByteArray := ⟨#[123, 49, 32, 97, 100, 100, 125, 32, 47, 98]⟩
abbrev k22s : ByteArray := ⟨#[123, 49, 32, 97, 100, 100, 125]⟩
abbrev bAdd : ByteArray := ⟨#[97, 100, 100]⟩
abbrev k22t : List Tok := [⟨7, 0, ⟨#[]⟩, 0⟩, ⟨1, 1, ⟨#[]⟩, 1⟩, ⟨3, 0, bAdd, 3⟩, ⟨8, 0, ⟨#[]⟩, 6⟩, ⟨4, 0, ⟨#[98]⟩, 8⟩]
theorem k22_lst : k22.toList = [123, 49, 32, 97, 100, 100, 125, 32, 47, 98] := by rw [ByteArray.toList_eq]
theorem k22_all : allF [123, 49, 32, 97, 100, 100, 125, 32, 47, 98] = (0, k22t, 0) := by
  decide +kernel
abbrev nmAdd : O := exeN bAdd
noncomputable abbrev H22 : List C := hQ sysQ ++ [rowC [int1, nmAdd]]
theorem mayO_add : mayO nmAdd = true := by
  simp [mayO, eqO, bareO, O.nil]
  decide
theorem h22_at : H22[2]? = some (rowC [int1, nmAdd]) := by
  rw [List.getElem?_append_right (by rw [sysQ_len8]; exact Nat.le_refl _), sysQ_len8]
  rfl
theorem k22_objs : objsB noF (hQ sysQ) k22t = (H22, [arX 2 2, nameB], 0, 0) := by
  have t0 : mayT ⟨7, 0, ⟨#[]⟩, 0⟩ = true := by decide +kernel
  have t1 : mayT ⟨1, 1, ⟨#[]⟩, 1⟩ = true := by decide +kernel
  have t2 : mayT ⟨3, 0, bAdd, 3⟩ = true := by decide +kernel
  have t3 : mayT ⟨8, 0, ⟨#[]⟩, 6⟩ = true := by decide +kernel
  have t4 : mayT ⟨4, 0, ⟨#[98]⟩, 8⟩ = true := by decide +kernel
  have ha := arrB_ok (hQ sysQ) [int1, nmAdd] (by rw [sysQ_len8]; decide) (by rw [sysQ_used8]; decide) (fun x hx => by
    simp only [List.mem_cons, List.not_mem_nil, or_false] at hx
    rcases hx with rfl | rfl
    · exact may_num _ _ (by decide) (by decide)
    · unfold mayH; rw [mayO_add]; rfl)
  rw [sysQ_len8] at ha
  unfold objsB
  simp only [runO]
  rw [step_open t0 (by decide)]
  simp only
  rw [step_leaf t1 (by decide) (by decide) leaf_1]
  simp only
  rw [step_leaf t2 (by decide) (by decide) leaf_3]
  simp only [List.nil_append, List.cons_append]
  rw [step_shut t3 ha]
  simp only [putB]
  rw [step_leaf t4 (by decide) (by decide) leaf_4]
  rfl
theorem s22_i : itemsH H22 (arX 2 2) = ([int1, nmAdd], 0) := items_arX (N := 2) h22_at (by decide) (by decide) _ rfl
theorem s22_g : SayG H22 20 (arX 2 2) := by
  refine ⟨mayO_arX 2 2 (by decide) (by decide) (by decide) (by decide), .inr (.inr (.inr (.inr rfl))), fun _ => ?_⟩
  rw [s22_i]
  refine ⟨rfl, by decide, by decide, fun x hx => ?_⟩
  simp only [List.mem_cons, List.not_mem_nil, or_false] at hx
  rcases hx with rfl | rfl
  · exact ⟨mayO_int1, .inr (.inl rfl), fun h => absurd h (by decide)⟩
  · exact ⟨mayO_add, .inr (.inr (.inl rfl)), fun h => absurd h (by decide)⟩
theorem s22_t : sayT H22 20 (arX 2 2) = [123, 49, 32, 97, 100, 100, 125] := by
  have e1 : leafT int1 = [49] := by
    unfold leafT
    rw [if_neg (by decide)]
    unfold plainB
    rw [if_neg (by decide), if_pos rfl, intL_1, ByteArray.toList_eq]
  have e2 : leafT nmAdd = [97, 100, 100] := by
    unfold leafT
    rw [if_neg (by decide)]
    unfold plainB
    rw [if_neg (by decide), if_neg (by decide), if_pos (by decide), ByteArray.toList_eq]
  have f1 : sayT H22 19 int1 = [49] := by rw [sayT, if_neg (by decide), e1]
  have f2 : sayT H22 19 nmAdd = [97, 100, 100] := by rw [sayT, if_neg (by decide), e2]
  rw [sayT, if_pos rfl, s22_i]
  simp only [arrT, jn, List.length_cons, List.length_nil, List.getD_cons_zero, List.getD_cons_succ]
  rw [f1, f2]
  rfl
end Go.Proofs.Ytpgkjgceldleaaa
/- known of tympanlaw22: the walk. -/
namespace Go.Proofs.Ytpgkjgceldleaaa
open Go.RowKit

set_option maxRecDepth 100000 in
theorem words22_any (s : ByteArray) (hs : s.size ≤ 1000000) {l : List Tok} {e : Int} {a : Nat} (hl : allF s.toList = (e, l, a)) {w0 w : World} {M : List (Nat × List C)} {K : List (Nat × Obj)} (A : Ats w0 w M K) :
    Calls Try.prog 23 #[.string s] w fun r w' => ∃ v R, r = .returned v ∧ RowG 31 4 R v l.length (toksV l) ∧ Ats w0 w' M (R ++ K) := by
  have HA := hid' (all_any s hs)
  rw [hl] at HA
  go_enter Try.func23, Try.ntmps23
  go_wp2_with fail
  refine (HA.out w).mono ?_
  rintro r w1 ⟨v, rfl, X, hown, -⟩
  obtain ⟨R, hR, A1⟩ := A.ofOwnsB X hown
  go_wp2_with fail
  go_ret
  exact ⟨v, R, rfl, hR, A1⟩
theorem no5 {toks : List Tok} (h : ∀ t ∈ toks, t.kind ≠ 5) {w0 : World} {M : List (Nat × List C)} {K : List (Nat × Obj)} {hp cp : Nat} {L0 : List C} : ∀ i L ls bg t, runO noF 0 (toks.take i) (L0, [[]], []) = .inl (L, ls, bg) → toks[i]? = some t → t.kind = 5 → mayT t = true → ∀ W E, Ats w0 W ((hp, L) :: M) (E ++ K) →
      Calls Try.prog 33 #[ptr cp, (exeN t.s).val] W fun r w' => ∃ d, r = .returned (.tuple #[(noF L t.s).1.val, d, .int .i64 (noF L t.s).2]) ∧ Ats w0 w' ((hp, L) :: M) (E ++ K) :=
  fun _i _L _ls _bg t _ ht h5 => absurd h5 (h t (List.mem_of_getElem? ht))
theorem k22_ok : ∀ t ∈ k22t, TokB t := by
  intro t ht
  simp only [k22t, List.mem_cons, List.not_mem_nil, or_false] at ht
  rcases ht with rfl | rfl | rfl | rfl | rfl <;> exact ⟨by decide, by decide, by decide⟩
theorem k22_no5 : ∀ t ∈ k22t, t.kind ≠ 5 := by
  intro t ht
  simp only [k22t, List.mem_cons, List.not_mem_nil, or_false] at ht
  rcases ht with rfl | rfl | rfl | rfl | rfl <;> decide
/-- heap.New and scope.New: a heap of the two dictionaries, a scope. -/
theorem new22 {w0 w : World} {M : List (Nat × List C)} {K : List (Nat × Obj)} {hp : Nat} (A : Ats w0 w ((hp, []) :: M) K) :
    Calls Try.prog 8 #[ptr hp] w fun e w' => ∃ cp, e = .returned (.tuple #[ptr cp, .int .i64 0]) ∧ Ats w0 w' ((hp, hQ sysQ) :: M) K := by
  refine (q_new A).mono ?_
  rintro e w' ⟨cp, rfl, g, cap, cur, -, -, -, -, A1⟩
  exact ⟨cp, rfl, A1.keep ((List.sublist_cons_self _ _).trans (List.sublist_cons_self _ _))⟩
set_option maxRecDepth 100000 in
set_option maxHeartbeats 2000000 in
theorem known22_any (w : World) : Calls Try.prog 6 #[] w fun e w' => e = .returned (.bool true) ∧ Chg NoB w w' := by
  have HW := hid' (fun (W : World) (M : List (Nat × List C)) (K : List (Nat × Obj)) (A : Ats w W M K) => words22_any (l := k22t) (e := 0) (a := 0) k22 (by decide) (by rw [k22_lst]; exact k22_all) A)
  have HO := hid' (fun (W : World) (hp cp : Nat) (v : Value) (R : List (Nat × Obj)) (hR : RowG 31 4 R v k22t.length (toksV k22t)) (A : Ats w W [(hp, hQ sysQ)] (R ++ [])) => objs_any (cp := cp) A v k22t (fun W' M' E A' => toksG hR A') k22_ok (by decide) noF (no5 k22_no5) k22_objs)
  have HF := hid' (fun (W : World) (hp : Nat) (K : List (Nat × Obj)) (A : Ats w W [(hp, H22)] K) => (show Calls Try.prog 13 #[ptr hp, (arX 2 2).val] W fun r w' => r = .returned (.string k22s) ∧ Ats w w' [(hp, H22)] K by
    have := at_full A m0 (arX 2 2) s22_g
    rw [s22_t] at this
    exact this))
  go_enter Try.func6, Try.ntmps6
  go_wp2_with fail
  refine (at_hnew (Ats.start (Chg.refl NoB w))).mono ?_
  rintro e w1 ⟨hp, rfl, A0⟩
  go_wp2_with fail
  refine (new22 A0).mono ?_
  rintro e w2 ⟨cp, rfl, A1⟩
  clear A0
  go_wp2_with fail
  refine (HW.out _ _ _ A1).mono ?_
  rintro e w3 ⟨v, R, rfl, hR, A2⟩
  clear A1
  have HP := hid' (HO.out w3 hp cp v R hR A2)
  clear hR A2 HW HO
  go_wp2_with fail
  refine HP.out.mono ?_
  rintro e w4 ⟨v2, R2, rfl, hR2, A3⟩
  clear HP
  obtain ⟨g, cap, cur, rfl, rfl, hc⟩ := hR2.shape (by decide)
  obtain ⟨a2, c2, he2, hcap⟩ := rowG_slice hR2
  simp only [Value.slice.injEq] at he2
  have hcap' : (2 : Nat) ≤ cap := by rw [he2.2.2]; exact hcap
  have q0 := hc 0 (by decide)
  have q1 := hc 1 (by decide)
  have q2 := hc 2 (by decide)
  have q3 := hc 3 (by decide)
  have q4 := hc 4 (by decide)
  have q5 := hc 5 (by decide)
  have p0 := hc 6 (by decide)
  have p1 := hc 7 (by decide)
  have p2 := hc 8 (by decide)
  have p3 := hc 9 (by decide)
  have p4 := hc 10 (by decide)
  have p5 := hc 11 (by decide)
  simp [O.cells] at q0 q1 q2 q3 q4 q5 p0 p1 p2 p3 p4 p5
  clear hc hR2 he2 hcap
  simp only [List.length_cons, List.length_nil] at *
  (try clear Rr); (try clear yr); (try clear Zr)
  have Rr := cells_of (A3.box _ m0)
  have yr := blk_lt (A3.box _ m0)
  (try simp only at Rr yr)
  have qb : eqO ⟨5, false, 0, 0, 0, ⟨#[98]⟩⟩ ⟨5, false, 0, 0, 0, ⟨#[98]⟩⟩ = true := eqO_self _
  have HG := hid' (HF.out w4 hp _ A3)
  clear A3 HF
  go_wp2_with fail
  refine HG.out.mono ?_
  rintro e w5 ⟨rfl, A4⟩
  clear HG Rr yr
  (try clear Rr); (try clear yr); (try clear Zr)
  have Rr := cells_of (A4.box _ m0)
  have yr := blk_lt (A4.box _ m0)
  (try simp only at Rr yr)
  go_wp2_with fail
  go_ret
  exact ⟨rfl, A4.chg⟩
end Go.Proofs.Ytpgkjgceldleaaa
