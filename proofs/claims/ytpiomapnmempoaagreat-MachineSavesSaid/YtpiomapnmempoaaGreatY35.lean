/- Parts of the proof: Uvc, Vpl, Vpk, Vps. -/
import Derived.Test.YtpiomapnmempoaaGreatY27
import Derived.Test.YtpiomapnmempoaaGreatY32
import Derived.Test.YtpiomapnmempoaaGreatY34
namespace Go.Proofs.YtpiomapnmempoaaGreat
open Go.RowKit
variable {i : Int} {L : List C}
theorem string_at (L : List C) (s : ByteArray) (h1 : L.length < 2000) (h2 : used L + s.size ≤ 40000) : stringH L s = (L ++ [txt s.toList], ⟨8, false, L.length, 0, s.size, ⟨#[]⟩⟩, 0) := by
 have hz := size_toList s; unfold stringH; rw [if_neg (by omega), add_fits _ _ h1 (by rw [txt_size]; omega)]; simp [objOf, C.kind, C.size, hz]
theorem used_txt (L : List C) (s : ByteArray) : used (L ++ [txt s.toList]) = used L + s.size := by
 rw [used_cat']; simp [used, C.size, size_toList]
theorem may_kinds {t : Tok} (h : mayT t = true) : t.kind = 1 ∨ t.kind = 2 ∨ t.kind = 3 ∨ t.kind = 4 ∨ t.kind = 5 ∨ t.kind = 6 ∨ t.kind = 7 ∨ t.kind = 8 ∨ t.kind = 9 ∨ t.kind = 10 ∨ t.kind = 11 ∨ t.kind = 12 := by
 obtain ⟨k, n, s, p⟩ := t; simp only
 by_cases h1 : k = 1 ∨ k = 2 ∨ k = 3 ∨ k = 4 ∨ k = 5 ∨ k = 6
 · omega
 · unfold mayT at h; simp only at h; rw [if_neg (by omega), if_neg (by omega)] at h
   by_cases hn : n ≠ 0
   · rw [if_pos hn] at h; exact absurd h (by decide)
   rw [if_neg hn, if_neg (by omega), if_neg (by omega), if_neg (by omega)] at h; simp only [Bool.and_eq_true, decide_eq_true_eq] at h; have h7 := h.1; unfold signL at h7
   repeat' split at h7
   all_goals first | omega | exact absurd rfl h7
def wordsL : List Tok → List UInt8
 | [] => []
 | [t] => printL t
 | t :: u :: r => printL t ++ 32 :: wordsL (u :: r)
theorem wordsL_rds : ∀ l : List Tok, (∀ t ∈ l, mayT t = true) → Rds (wordsL l) l
 | [], _ => Rds.nil
 | [t], h => Rds.word t (h t (List.mem_cons_self ..))
 | t :: u :: r, h => Rds.cat (Rds.word t (h t (List.mem_cons_self ..))) (wordsL_rds (u :: r) fun t ht => h t (List.mem_cons_of_mem _ ht))
theorem stepO_k3 {F : List C → ByteArray → O × Int} {t u : Tok} {s : OSt} (h : k3 t = k3 u) : stepO F i t s = stepO F i u s := by
 obtain ⟨a, b, c, d⟩ := t; obtain ⟨a', b', c', d'⟩ := u; simp only [k3, Prod.mk.injEq] at h; obtain ⟨rfl, rfl, rfl⟩ := h; rfl
theorem runO_k3 {F : List C → ByteArray → O × Int} : ∀ (ts us : List Tok) (i : Int) (s : OSt), ts.map k3 = us.map k3 → runO F i ts s = runO F i us s
 | [], [], _, _, _ => rfl
 | [], _ :: _, _, _, h => by simp at h
 | _ :: _, [], _, _, h => by simp at h
 | t :: ts, u :: us, i, s, h => by
  simp only [List.map_cons, List.cons.injEq] at h; simp only [runO, stepO_k3 h.1]
  cases stepO F i u s with
  | inl s' => exact runO_k3 ts us _ _ h.2
  | inr e => rfl
theorem objsB_k3 {F : List C → ByteArray → O × Int} {ts us : List Tok} (h : ts.map k3 = us.map k3) : objsB F L ts = objsB F L us := by
 unfold objsB; rw [runO_k3 ts us _ _ h]
def plainT (t : Tok) : Bool := mayT t && decide (t.kind ≠ 5) && decide (t.kind ≠ 6) && decide (t.kind ≠ 7) && decide (t.kind ≠ 8)
def wO (t : Tok) : O := if t.kind = 1 then ⟨3, false, t.n, 0, 0, ⟨#[]⟩⟩ else if t.kind = 2 then ⟨4, false, t.n, 0, 0, ⟨#[]⟩⟩
 else if t.kind = 3 ∨ t.kind = 4 then ⟨5, decide (t.kind = 3), 0, 0, 0, t.s⟩ else exeN (signN t.kind)
theorem step_plain {F : List C → ByteArray → O × Int} {t : Tok} {l0 : List O} {ls : List (List O)} {bg : List Int} (h : plainT t = true) :
 stepO F i t (L, l0 :: ls, bg) = .inl (L, (l0 ++ [wO t]) :: ls, bg) := by
 simp only [plainT, Bool.and_eq_true, decide_eq_true_eq] at h; obtain ⟨⟨⟨⟨h0, h5⟩, h6⟩, h7⟩, h8⟩ := h
 have e : leafB F L t = (L, wO t, 0) := by
  unfold leafB wO; rw [if_neg h6, if_neg h5]; split
  · rfl
  · split
    · rfl
    · split <;> rfl
 unfold stepO; rw [if_neg (by rw [h0]; decide), if_neg h7, if_neg h8]; simp only [e]; rw [if_pos trivial]; rfl
theorem run_plain {F : List C → ByteArray → O × Int} {ls : List (List O)} {bg : List Int} : ∀ (ts : List Tok) (i : Int) (l0 : List O), (∀ t ∈ ts, plainT t = true) →
 runO F i ts (L, l0 :: ls, bg) = .inl (L, (l0 ++ ts.map wO) :: ls, bg)
 | [], i, l0, _ => by simp [runO]
 | t :: ts, i, l0, h => by
  simp only [runO, step_plain (h t (List.mem_cons_self ..))]; rw [run_plain ts _ _ fun u hu => h u (List.mem_cons_of_mem _ hu)]; simp
theorem step_str {F : List C → ByteArray → O × Int} {p : Int} {s : ByteArray} {l0 : List O} {ls : List (List O)} {bg : List Int} (hs : s.size ≤ 4000) (h1 : L.length < 2000) (h2 : used L + s.size ≤ 40000) :
 stepO F i ⟨6, 0, s, p⟩ (L, l0 :: ls, bg) = .inl (L ++ [txt s.toList], (l0 ++ [⟨8, false, L.length, 0, s.size, ⟨#[]⟩⟩]) :: ls, bg) :=
 step_leaf (by simp [mayT, hs]) (by decide) (by decide) (by rw [leaf_6]; exact string_at L s h1 h2)
theorem Rds.all3 {X : List UInt8} {ts : List Tok} (h : Rds X ts) (hl : X.length ≤ 20000) (hn : ts.length ≤ 4000) : ∃ us, us.map k3 = ts.map k3 ∧ allF X = (0, us, 0) := by
 obtain ⟨us, h1, h2⟩ := h [] (X.length + 1) 0 [] (.inl rfl) (by simp) (by simpa using hn); refine ⟨us, h1, ?_⟩; unfold allF; rw [if_neg (by omega)]; rw [List.append_nil] at h2; rw [h2, allW, next_nil, tokAt_nil]; rfl
def knA : List Tok := [⟨1, 1, ⟨#[]⟩, 0⟩, ⟨1, 2, ⟨#[]⟩, 0⟩, ⟨3, 0, ⟨#[97, 100, 100]⟩, 0⟩, ⟨3, 0, ⟨#[61]⟩, 0⟩]
def knB : List Tok := [⟨1, 1, ⟨#[]⟩, 0⟩, ⟨1, 0, ⟨#[]⟩, 0⟩, ⟨3, 0, ⟨#[100, 105, 118]⟩, 0⟩]
def knC : List Tok := [⟨3, 0, ⟨#[115, 116, 111, 112, 112, 101, 100]⟩, 0⟩]
def knT : List Tok := knA ++ (⟨7, 0, ⟨#[]⟩, 0⟩ :: (knB ++ (⟨8, 0, ⟨#[]⟩, 0⟩ :: knC)))
def knX : List UInt8 := wordsL knA ++ 32 :: ((123 :: (wordsL knB ++ [125])) ++ 32 :: wordsL knC)
theorem knA_ok : ∀ t ∈ knA, plainT t = true := by decide +kernel
theorem knB_ok : ∀ t ∈ knB, plainT t = true := by decide +kernel
theorem knC_ok : ∀ t ∈ knC, plainT t = true := by decide +kernel
theorem plain_may {t : Tok} (h : plainT t = true) : mayT t = true := by
 simp only [plainT, Bool.and_eq_true] at h; exact h.1.1.1.1
theorem kn_rds : Rds knX knT := by
 have h1 := wordsL_rds knA fun t ht => plain_may (knA_ok t ht); have h2 := Rds.brace (wordsL_rds knB fun t ht => plain_may (knB_ok t ht)); have h3 := wordsL_rds knC fun t ht => plain_may (knC_ok t ht); have := Rds.cat h1 (Rds.cat h2 h3); unfold knX knT
 simpa only [List.cons_append, List.append_assoc, List.nil_append] using this
theorem kn_text : knX = [49, 32, 50, 32, 97, 100, 100, 32, 61, 32, 123, 49, 32, 48, 32, 100, 105, 118, 125, 32, 115, 116, 111, 112, 112, 101, 100] := by decide +kernel
theorem mayH_plain {t : Tok} (h : plainT t = true) : mayH L (wO t) = true := by
 simp only [plainT, Bool.and_eq_true, decide_eq_true_eq] at h; obtain ⟨⟨⟨⟨h0, h5⟩, h6⟩, h7⟩, h8⟩ := h; obtain ⟨k, n, s, p⟩ := t; simp only at h5 h6 h7 h8
 have hs : signN k = ⟨#[91]⟩ ∨ signN k = ⟨#[93]⟩ ∨ signN k = ⟨#[60, 60]⟩ ∨ signN k = ⟨#[62, 62]⟩ := by
  unfold signN; split
  · exact .inl rfl
  · split
    · exact .inr (.inl rfl)
    · split
      · exact .inr (.inr (.inl rfl))
      · exact .inr (.inr (.inr rfl))
 rcases may_kinds h0 with e | e | e | e | e | e | e | e | e | e | e | e <;> simp only at e <;> subst e
 · unfold mayT at h0; simp only [if_true, Bool.and_eq_true, decide_eq_true_eq] at h0; simp [wO, mayH, held, mayO, eqO, bareO, O.nil]; omega
 · unfold mayT at h0; simp only [if_true, Bool.and_eq_true, decide_eq_true_eq, show ¬ (2 : Int) = 1 by decide, if_false] at h0; simp [wO, mayH, held, mayO, eqO, bareO, O.nil]; omega
 · unfold mayT at h0; simp only [show ¬ (3 : Int) = 1 by decide, show ¬ (3 : Int) = 2 by decide, if_true, if_false] at h0; split at h0
   · simp at h0
   · simp only [Bool.and_eq_true, decide_eq_true_eq] at h0; exact may_name _ _ _ h0.1.2
 · unfold mayT at h0; simp only [show ¬ (4 : Int) = 1 by decide, show ¬ (4 : Int) = 2 by decide, show ¬ (4 : Int) = 3 by decide, if_false, true_or, if_true] at h0; split at h0
   · simp at h0
   · simp only [Bool.and_eq_true, decide_eq_true_eq] at h0; exact may_name _ _ _ h0.1
 · exact absurd rfl h5
 · exact absurd rfl h6
 · exact absurd rfl h7
 · exact absurd rfl h8
 all_goals
  refine may_name _ _ _ ?_
  rcases hs with e | e | e | e <;> rw [e] <;> decide
theorem kn_prog (F : List C → ByteArray → O × Int) : progB F (hQ sysQ) knT = (hQ sysQ ++ [rowC (knB.map wO)] ++ [rowC (knA.map wO ++ [arX 2 3] ++ knC.map wO)], arX 3 6, 0, 0) := by
 have hL : (hQ sysQ).length = 2 := sysQ_len8; have hu : used (hQ sysQ) = 726 := sysQ_used8
 have e1 : arrB (hQ sysQ) (knB.map wO) = (hQ sysQ ++ [rowC (knB.map wO)], arX 2 3, 0) := by
  have := arrB_ok (hQ sysQ) (knB.map wO) (by omega) (by rw [hu]; decide) (fun x hx => by
   obtain ⟨t, ht, rfl⟩ := List.mem_map.1 hx
   exact mayH_plain (knB_ok t ht))
  rw [hL] at this; exact this
 have e2 : runO F 0 knT (hQ sysQ, [[]], []) = .inl (hQ sysQ ++ [rowC (knB.map wO)], [knA.map wO ++ [arX 2 3] ++ knC.map wO], []) := by
  unfold knT; rw [runO_app _ _ _ _ _ _ (run_plain knA 0 [] knA_ok)]; simp only [runO]; rw [step_open (by decide +kernel) (by decide)]; simp only; rw [runO_app _ _ _ _ _ _ (run_plain knB _ [] knB_ok)]; simp only [runO, List.nil_append]; rw [step_shut (by decide +kernel) e1]; simp only [putB]; rw [run_plain knC _ _ knC_ok]
 have e3 : objsB F (hQ sysQ) knT = (hQ sysQ ++ [rowC (knB.map wO)], knA.map wO ++ [arX 2 3] ++ knC.map wO, 0, 0) := by
  unfold objsB; rw [e2]; rfl
 have e4 : arrB (hQ sysQ ++ [rowC (knB.map wO)]) (knA.map wO ++ [arX 2 3] ++ knC.map wO) = (hQ sysQ ++ [rowC (knB.map wO)] ++ [rowC (knA.map wO ++ [arX 2 3] ++ knC.map wO)], arX 3 6, 0) := by
  have hl2 : (hQ sysQ ++ [rowC (knB.map wO)]).length = 3 := by rw [List.length_append, hL]; rfl
  have := arrB_ok (hQ sysQ ++ [rowC (knB.map wO)]) (knA.map wO ++ [arX 2 3] ++ knC.map wO) (by omega) (by rw [used_row, hu]; decide) (fun x hx => by
   rcases List.mem_append.1 hx with hx | hx
   · rcases List.mem_append.1 hx with hx | hx
     · obtain ⟨t, ht, rfl⟩ := List.mem_map.1 hx; exact mayH_plain (knA_ok t ht)
     · rw [List.mem_singleton.1 hx]; have := may_arX (L := hQ sysQ ++ [rowC (knB.map wO)]) (N := 2) (is := knB.map wO) (by rw [List.getElem?_append_right (by omega), hL]; rfl) (by decide) (by decide) 3 (by decide); exact this
   · obtain ⟨t, ht, rfl⟩ := List.mem_map.1 hx
     exact mayH_plain (knC_ok t ht))
  rw [hl2] at this; exact this
 unfold progB; rw [e3]; simp only; rw [if_pos trivial, e4]; rfl
def svA : List Tok := [⟨4, 0, ⟨#[97]⟩, 0⟩, ⟨9, 0, ⟨#[]⟩, 0⟩, ⟨1, 0, ⟨#[]⟩, 0⟩, ⟨10, 0, ⟨#[]⟩, 0⟩, ⟨3, 0, ⟨#[100, 101, 102]⟩, 0⟩, ⟨4, 0, ⟨#[98]⟩, 0⟩]
def svB (v u : Int) : List Tok := [⟨3, 0, ⟨#[100, 101, 102]⟩, 0⟩, ⟨4, 0, ⟨#[100]⟩, 0⟩, ⟨1, 3, ⟨#[]⟩, 0⟩, ⟨3, 0, ⟨#[100, 105, 99, 116]⟩, 0⟩, ⟨3, 0, ⟨#[100, 101, 102]⟩, 0⟩, ⟨3, 0, ⟨#[97]⟩, 0⟩, ⟨1, 0, ⟨#[]⟩, 0⟩, ⟨1, v, ⟨#[]⟩, 0⟩, ⟨3, 0, ⟨#[112, 117, 116]⟩, 0⟩, ⟨3, 0, ⟨#[100]⟩, 0⟩, ⟨4, 0, ⟨#[107]⟩, 0⟩, ⟨1, v, ⟨#[]⟩, 0⟩, ⟨3, 0, ⟨#[112, 117, 116]⟩, 0⟩, ⟨4, 0, ⟨#[115]⟩, 0⟩, ⟨3, 0, ⟨#[115, 97, 118, 101]⟩, 0⟩, ⟨3, 0, ⟨#[100, 101, 102]⟩, 0⟩, ⟨3, 0, ⟨#[98]⟩, 0⟩, ⟨1, 0, ⟨#[]⟩, 0⟩, ⟨1, u, ⟨#[]⟩, 0⟩, ⟨3, 0, ⟨#[112, 117, 116]⟩, 0⟩, ⟨3, 0, ⟨#[97]⟩, 0⟩, ⟨1, 0, ⟨#[]⟩, 0⟩, ⟨1, u, ⟨#[]⟩, 0⟩, ⟨3, 0, ⟨#[112, 117, 116]⟩, 0⟩, ⟨3, 0, ⟨#[100]⟩, 0⟩, ⟨4, 0, ⟨#[107]⟩, 0⟩, ⟨9, 0, ⟨#[]⟩, 0⟩, ⟨1, 1, ⟨#[]⟩, 0⟩, ⟨10, 0, ⟨#[]⟩, 0⟩, ⟨3, 0, ⟨#[112, 117, 116]⟩, 0⟩, ⟨4, 0, ⟨#[122]⟩, 0⟩, ⟨1, 1, ⟨#[]⟩, 0⟩, ⟨3, 0, ⟨#[100, 101, 102]⟩, 0⟩]
def svC : Bool → List Tok
 | true => [⟨3, 0, ⟨#[100]⟩, 0⟩, ⟨4, 0, ⟨#[107]⟩, 0⟩, ⟨3, 0, ⟨#[103, 101, 116]⟩, 0⟩, ⟨3, 0, ⟨#[115]⟩, 0⟩, ⟨3, 0, ⟨#[114, 101, 115, 116, 111, 114, 101]⟩, 0⟩]
 | false => [⟨3, 0, ⟨#[115]⟩, 0⟩, ⟨3, 0, ⟨#[114, 101, 115, 116, 111, 114, 101]⟩, 0⟩, ⟨3, 0, ⟨#[97]⟩, 0⟩, ⟨1, 0, ⟨#[]⟩, 0⟩, ⟨3, 0, ⟨#[103, 101, 116]⟩, 0⟩, ⟨3, 0, ⟨#[100]⟩, 0⟩, ⟨4, 0, ⟨#[107]⟩, 0⟩, ⟨3, 0, ⟨#[103, 101, 116]⟩, 0⟩, ⟨3, 0, ⟨#[98]⟩, 0⟩, ⟨4, 0, ⟨#[122]⟩, 0⟩, ⟨3, 0, ⟨#[119, 104, 101, 114, 101]⟩, 0⟩]
abbrev svS : Tok := ⟨6, 0, ⟨#[120]⟩, 0⟩
def svT (v u : Int) (keep : Bool) : List Tok := svA ++ svS :: (svB v u ++ svC keep)
theorem svA_ok : ∀ t ∈ svA, plainT t = true := by decide +kernel
theorem svC_ok (k : Bool) : ∀ t ∈ svC k, plainT t = true := by cases k <;> decide +kernel
theorem plainT_int (v p : Int) (h0 : -2147483647 ≤ v) (h1 : v ≤ 2147483647) : plainT ⟨1, v, ⟨#[]⟩, p⟩ = true := by
 simp [plainT, mayT, h0, h1]; rfl
theorem svB_ok (v u : Int) (h0 : -2147483647 ≤ v) (h1 : v ≤ 2147483647) (h2 : -2147483647 ≤ u) (h3 : u ≤ 2147483647) : ∀ t ∈ svB v u, plainT t = true := by
 intro t ht
 have e : ∀ t ∈ svB 0 0, plainT t = true := by decide +kernel
 simp only [svB, List.mem_cons, List.not_mem_nil, or_false] at ht e; simp only [forall_eq_or_imp, forall_eq] at e; have ev := plainT_int v 0 h0 h1; have eu := plainT_int u 0 h2 h3
 rcases ht with rfl | rfl | rfl | rfl | rfl | rfl | rfl | rfl | rfl | rfl | rfl | rfl | rfl | rfl | rfl | rfl | rfl | rfl | rfl | rfl | rfl | rfl | rfl | rfl | rfl | rfl | rfl | rfl | rfl | rfl | rfl | rfl | rfl <;> simp_all only
def svOs (v u : Int) (keep : Bool) : List O := svA.map wO ++ ⟨8, false, 2, 0, 1, ⟨#[]⟩⟩ :: (svB v u ++ svC keep).map wO
theorem svOs_len (v u : Int) (k : Bool) : (svOs v u k).length = if k then 45 else 51 := by cases k <;> rfl
theorem sv_prog (F : List C → ByteArray → O × Int) (v u : Int) (k : Bool) (h0 : -2147483647 ≤ v) (h1 : v ≤ 2147483647) (h2 : -2147483647 ≤ u) (h3 : u ≤ 2147483647) :
 progB F (hQ sysQ) (svT v u k) = (hQ sysQ ++ [txt [120]] ++ [rowC (svOs v u k)], arX 3 (svOs v u k).length, 0, 0) := by
 have hL : (hQ sysQ).length = 2 := sysQ_len8; have hu : used (hQ sysQ) = 726 := sysQ_used8
 have hBC : ∀ t ∈ svB v u ++ svC k, plainT t = true := fun t ht => by
  rcases List.mem_append.1 ht with ht | ht
  · exact svB_ok v u h0 h1 h2 h3 t ht
  · exact svC_ok k t ht
 have eS : ∀ i, stepO F i svS (hQ sysQ, [svA.map wO], []) = .inl (hQ sysQ ++ [txt [120]], [svA.map wO ++ [⟨8, false, 2, 0, 1, ⟨#[]⟩⟩]], []) := fun i => by
  have := step_str (F := F) (i := i) (p := 0) (s := ⟨#[120]⟩) (L := hQ sysQ) (l0 := svA.map wO) (ls := []) (bg := []) (by decide) (by omega) (by rw [hu]; decide); rw [hL, show (⟨#[120]⟩ : ByteArray).toList = [120] by rw [ByteArray.toList_eq]] at this; exact this
 have e2 : runO F 0 (svT v u k) (hQ sysQ, [[]], []) = .inl (hQ sysQ ++ [txt [120]], [svOs v u k], []) := by
  unfold svT; rw [runO_app _ _ _ _ _ _ (run_plain svA 0 [] svA_ok)]; simp only [runO, List.nil_append, eS]; rw [run_plain _ _ _ hBC]; simp only [svOs, List.append_assoc, List.cons_append, List.nil_append]
 have e3 : objsB F (hQ sysQ) (svT v u k) = (hQ sysQ ++ [txt [120]], svOs v u k, 0, 0) := by
  unfold objsB; rw [e2]; rfl
 have hl2 : (hQ sysQ ++ [txt [120]]).length = 3 := by rw [List.length_append, hL]; rfl
 have hsz : (svOs v u k).length ≤ 60 := by rw [svOs_len]; cases k <;> decide
 have e4 : arrB (hQ sysQ ++ [txt [120]]) (svOs v u k) = (hQ sysQ ++ [txt [120]] ++ [rowC (svOs v u k)], arX 3 (svOs v u k).length, 0) := by
  have ut : used (hQ sysQ ++ [txt [120]]) = 727 := by
   have := used_txt (hQ sysQ) ⟨#[120]⟩; rw [hu, show (⟨#[120]⟩ : ByteArray).toList = [120] by rw [ByteArray.toList_eq]] at this; exact this
  have := arrB_ok (hQ sysQ ++ [txt [120]]) (svOs v u k) (by rw [hl2]; decide) (by rw [ut]; exact Nat.le_trans (Nat.add_le_add_left hsz _) (by decide)) (fun x hx => by
   rcases List.mem_append.1 hx with hx | hx
   · obtain ⟨t, ht, rfl⟩ := List.mem_map.1 hx; exact mayH_plain (svA_ok t ht)
   · rcases List.mem_cons.1 hx with rfl | hx
     · decide +kernel
     · obtain ⟨t, ht, rfl⟩ := List.mem_map.1 hx
       exact mayH_plain (hBC t ht))
  rw [hl2] at this; exact this
 unfold progB; rw [e3]; simp only; rw [if_pos trivial, e4]; rfl
end Go.Proofs.YtpiomapnmempoaaGreat
