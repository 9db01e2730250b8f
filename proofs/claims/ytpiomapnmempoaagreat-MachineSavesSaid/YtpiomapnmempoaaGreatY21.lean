/- Parts of the proof: Twd, Tnx, Tpr. -/
import Derived.Deep.DeepCutAuto
import Derived.Test.YtpiomapnmempoaaGreatY18
import Derived.Test.YtpiomapnmempoaaGreatY20
namespace Go.Proofs.YtpiomapnmempoaaGreat
open Go.RowKit
abbrev bytesB (l : List UInt8) : ByteArray := ⟨l.toArray⟩
abbrev nameT (k : Int) (l : List UInt8) : Tok := ⟨k, 0, bytesB l, 0⟩
def nameF (k : Int) (l : List UInt8) : Int × Tok × Nat := if 100 < regL l then (5, Tok.nil, 0) else (0, nameT k (l.take (regL l)), regL l)
abbrev wordV (t : Tok) (nx : Int) (e : Int) : Value := .tuple #[t.val, .int .i64 nx, .int .i64 e]
def WordEnd (w : World) (a : Nat) (R : Int × Tok × Nat) (r : Ending) (w' : World) : Prop :=
 ∃ t nx, r = .returned (wordV t nx R.1) ∧ Chg NoB w w' ∧ (R.1 = 0 → t = R.2.1 ∧ nx = ((a + R.2.2 : Nat) : Int))
theorem extract_lst (s : ByteArray) (a n : Nat) (_h : a + n ≤ s.size) : s.extract a (a + n) = bytesB ((s.toList.drop a).take n) := by
 have e : (s.extract a (a + n)).toList = (s.toList.drop a).take n := by
  rw [ByteArray.toList_eq, ByteArray.toList_eq, ByteArray.data_extract]; simp [List.extract_eq_take_drop]
 have e2 : s.extract a (a + n) = bytesB (s.extract a (a + n)).toList := by
  rw [ByteArray.toList_eq]
 rw [e2, e]
set_option maxRecDepth 100000 in
set_option maxHeartbeats 1000000 in
theorem tname_any (s : ByteArray) (a : Nat) (k : Int) (hs : s.size ≤ 1000000) (ha : a ≤ s.size) (w : World) :
 Calls Tryz.prog 82 #[.string s, .int .i64 a, .int .i64 k] w (WordEnd w a (nameF k (s.toList.drop a))) := by
 have hR : nameF k (s.toList.drop a) = if 100 < regL (s.toList.drop a) then (5, Tok.nil, 0) else (0, nameT k ((s.toList.drop a).take (regL (s.toList.drop a))), regL (s.toList.drop a)) := rfl
 have hn := regL_le (s.toList.drop a); rw [List.length_drop, size_lst] at hn; have hx := extract_lst s a (regL (s.toList.drop a)) (by omega); have hreg := fun w => regular_any s a hs (by omega) w; generalize nameF k (s.toList.drop a) = R at *; generalize regL (s.toList.drop a) = n at *; have HREG := hid' hreg
 have hn' : (n : Int) ≤ (s.size : Int) - a := by omega
 have hsum : (a : Int) + n ≤ s.size := by omega
 clear hreg
 by_cases c : 100 < n
 · have HR := hid' (hR.trans (if_pos c))
   have c' : 100 < (n : Int) := by omega
   clear hR hx c; go_enter Tryz.func82, Tryz.ntmps82
   go_wp2_with fail
   refine (HREG.out _).mono ?_; rintro r w1 ⟨rfl, rfl⟩; go_wp2_with fail
   refine bodyPost_ret (v := wordV Tok.nil 0 5) (by simp [results, Tryz.results82, go_sem, Tok.nil]) rfl ?_; unfold WordEnd; rw [HR.out]; refine ⟨Tok.nil, 0, rfl, ?_, fun h => absurd h (by decide)⟩
   (repeat' (first | with_reducible assumption | with_reducible refine Chg.alloc ?_ _ | with_reducible refine Chg.drew ?_ | with_reducible refine Chg.drewN ?_ _ | with_reducible refine Chg.setCell ?_ (Or.inr ?_) _ | exact Nat.le_refl _ | exact Nat.le_add_right _ _ | (simp; done) | (simp; omega)))
   exact Chg.refl _ _
 · have HR := hid' (hR.trans (if_neg c))
   have c' : (n : Int) ≤ 100 := by omega
   have HX := hid' hx; clear hR hx c; go_enter Tryz.func82, Tryz.ntmps82
   go_wp2_with fail
   refine (HREG.out _).mono ?_; rintro r w1 ⟨rfl, rfl⟩; go_wp2_with fail
   refine bodyPost_ret (v := wordV ⟨k, 0, s.extract a (a + n), 0⟩ (a + n) 0) (by simp [results, Tryz.results82, go_sem]) rfl ?_; unfold WordEnd; rw [HR.out]; exact ⟨_, _, rfl, (Chg.refl NoB w).alloc _, fun _ => ⟨by rw [HX.out], by simp only [Int.natCast_add]⟩⟩
theorem bytesB_lst (l : List UInt8) : (bytesB l).toList = l := by rw [ByteArray.toList_eq]
theorem ext_end (s : ByteArray) (a : Nat) : (s.extract a s.size).toList = s.toList.drop a := by
 rw [ByteArray.toList_eq, ByteArray.toList_eq, ByteArray.data_extract]; have : s.size = s.data.toList.length := rfl; simp only [Array.toList_extract, List.extract_eq_take_drop, this]; rw [List.take_of_length_le (by simp)]
theorem ext_size (s : ByteArray) (a b : Nat) (h : b ≤ s.size) : (s.extract a b).size ≤ s.size := by
 rw [ByteArray.size_extract]; omega
def pre (k : Nat) (l : List UInt8) : Bool := (signL k).isPrefixOf l
def sgF : Nat → Nat → List UInt8 → Nat
 | 0, _, _ => 0
 | f + 1, k, l => if pre k l = true then k else sgF f (k + 1) l
theorem sgF_yes (f k : Nat) (l : List UInt8) (h : pre k l = true) : sgF (f + 1) k l = k := by rw [sgF, if_pos h]
theorem sgF_no (f k : Nat) (l : List UInt8) (h : ¬ pre k l = true) : sgF (f + 1) k l = sgF f (k + 1) l := by rw [sgF, if_neg h]
theorem pre_iff (s : ByteArray) (a k : Nat) (ha : a ≤ s.size) : pre k (s.toList.drop a) = true ↔ (a + (signB k).size ≤ s.size ∧ s.extract a (a + (signB k).size) = signB k) := by
 have hsz : (signB k).size = (signL k).length := rfl; unfold pre; rw [List.isPrefixOf_iff_prefix, List.prefix_iff_eq_take, hsz]
 have hl : (s.toList.drop a).length = s.size - a := by rw [List.length_drop, size_lst]
 constructor
 · intro h
   have h1 : (signL k).length ≤ s.size - a := by rw [h, List.length_take, hl]; omega
   have h2 : a + (signL k).length ≤ s.size := by omega
   refine ⟨h2, ?_⟩; rw [extract_lst s a _ h2, ← h]
 · rintro ⟨h1, h2⟩; rw [extract_lst s a _ h1] at h2; have := congrArg (fun b : ByteArray => b.data.toList) h2
   simpa using this.symm
theorem quiet_lf {P : Program} {f : FuncId} {args : Array Value} {w : World} {n : Nat} {v : Value}
 (h : Calls P f args (w.drewN n) fun e w' => e = .returned v ∧ w.drewN n = w') : Calls P f args (w.drewN n) fun e w'' => e = .returned v ∧ ∃ m, w'' = w.drewN m :=
 h.mono fun _ _ ⟨he, hm⟩ => ⟨he, n, hm.symm⟩
def wordF (l : List UInt8) : Int × Tok × Nat :=
 if sgF 6 7 l ≠ 0 then (0, ⟨sgF 6 7 l, 0, ⟨#[]⟩, 0⟩, (signL (sgF 6 7 l)).length)
 else if l.head? = some 40 ∨ l.head? = some 60 then ((takeF l).1, ⟨6, 0, bytesB (takeF l).2.1, 0⟩, (takeF l).2.2)
 else if l.head? = some 62 ∨ l.head? = some 41 then (3, Tok.nil, 0)
 else if l.head? = some 47 then
  if (l.drop 1).head? = some 47 then ((nameF 5 (l.drop 2)).1, (nameF 5 (l.drop 2)).2.1, 2 + (nameF 5 (l.drop 2)).2.2)
  else ((nameF 4 (l.drop 1)).1, (nameF 4 (l.drop 1)).2.1, 1 + (nameF 4 (l.drop 1)).2.2)
 else if (readF (l.take (regL l))).2.2 = 0 then (0, ⟨(readF (l.take (regL l))).1, (readF (l.take (regL l))).2.1, ⟨#[]⟩, 0⟩, regL l)
 else if (readF (l.take (regL l))).2.2 = 2 then (2, Tok.nil, 0)
 else nameF 3 l
set_option maxRecDepth 100000 in
set_option maxHeartbeats 4000000 in
theorem word_any (s : ByteArray) (a : Nat) (hs : s.size ≤ 1000000) (ha : a < s.size) (w : World) :
 Calls Tryz.prog 52 #[.string s, .int .i64 a] w (WordEnd w a (wordF (s.toList.drop a))) := by
 obtain ⟨R, hR⟩ : ∃ R, wordF (s.toList.drop a) = R := ⟨_, rfl⟩
 rw [hR]; have HR := hid' hR; clear hR
 have ha' : (a : Int) < s.size := by omega
 have h0 : (0 : Int) ≤ a := by omega
 go_enter Tryz.func52, Tryz.ntmps52
 go_wp2_with fail
 go_loopw [7] (fun kv wr => ∃ k : Nat, 7 ≤ k ∧ k ≤ 13 ∧ kv = .int .i64 k ∧ sgF 6 7 (s.toList.drop a) = sgF (13 - k) k (s.toList.drop a) ∧ Chg NoB w wr ∧ wr.heap[w.heap.size]? = some (.cells #[.int .i64 0, .int .i64 0, .string ⟨#[]⟩, .int .i64 0] 73 (0, 0))) (fun kv _ => 13 - (intOf kv).toNat)
 case atStart => exact ⟨7, by omega, by omega, rfl, rfl, (Chg.refl NoB w).alloc _, blk_new w _⟩
 case round =>
  obtain ⟨k, hk7, hk13, rfl, h1, X, hb⟩ := hrel; have H1 := hid' h1; clear h1
  by_cases hk : k < 13
  · have hk' : (k : Int) ≤ 12 := by omega
    have hp := pre_iff s a k (by omega); have hsg := fun w => sign_any (k : Int) (by omega) (by omega) w; have hsz : (signB k).size = (signL k).length := rfl
    have hszb : (signB k).size ≤ 2 := by
     rw [hsz]; unfold signL
     split <;> (try split) <;> (try split) <;> (try split) <;> (try split) <;> (try split) <;> simp
    have HLN := hid' hsz; clear hsz; generalize signB (k : Int) = S at *; have HSG := hid' hsg; clear hsg
    by_cases g1 : a + S.size ≤ s.size
    rotate_left
    · have g1' : decide (a + S.size ≤ s.size) = false := by simp; omega
      have g1'' : decide ((a : Int) + (S.size : Int) ≤ (s.size : Int)) = false := by simp; omega
      have wr1 : IntKind.i64.wrap ((a : Int) + (S.size : Int)) = (a : Int) + (S.size : Int) := IntWalk.i64_in _ (by omega); have HN := hid' (sgF_no (12 - k) k (s.toList.drop a) (fun h => g1 (hp.1 h).1)); clear hp g1; go_wp2_with fail
      refine (HSG.out _).mono ?_; rintro r w1 ⟨rfl, rfl⟩; go_wp2_with fail
      go_quiet ((go_at_call 80; exact quiet_lf (HSG.out _)))
      clear wr1; go_wp2_with fail
      go_roundw
      case rel => exact ⟨k + 1, by omega, by omega, by go_num, by rw [H1.out, show 13 - k = 12 - k + 1 by omega, HN.out, show 12 - k = 13 - (k + 1) by omega], X.drewN _, hb⟩
      case measure => simp [intOf]; omega
    have g1' : decide (a + S.size ≤ s.size) = true := by simp; omega
    have g1'' : decide ((a : Int) + (S.size : Int) ≤ (s.size : Int)) = true := by simp; omega
    have g0 : (a : Int) + (S.size : Int) ≤ (s.size : Int) := by omega
    have q0 : (0 : Int) ≤ (a : Int) + (S.size : Int) := by omega
    have q1 : (a : Int) ≤ (a : Int) + (S.size : Int) := by omega
    have q2 : ((a : Int) + (S.size : Int)).toNat = a + S.size := by omega
    have wr1 : IntKind.i64.wrap ((a : Int) + (S.size : Int)) = (a : Int) + (S.size : Int) := IntWalk.i64_in _ (by omega)
    by_cases g2 : s.extract a (a + S.size) = S
    · have HY := hid' (sgF_yes (12 - k) k (s.toList.drop a) (hp.2 ⟨g1, g2⟩))
      have e2 : ((s.extract a (a + S.size)).toList == S.toList) = true := by rw [g2]; simp
      clear hp g1 g2; go_wp2_with fail
      refine (HSG.out _).mono ?_; rintro r w1 ⟨rfl, rfl⟩; go_wp2_with fail
      go_quiet ((go_at_call 80; exact quiet_lf (HSG.out _)))
      clear wr1; have X' := X.drewN nq; have hb' : (wr.drewN nq).heap[w.heap.size]? = some (.cells #[.int .i64 0, .int .i64 0, .string ⟨#[]⟩, .int .i64 0] 73 (0, 0)) := hb; generalize wr.drewN nq = w2 at *; have R4 := cells_of hb'; have Z4 := free_of hb'; have l4 := blk_lt hb'; have HF := hid' (HR.out.symm.trans (if_pos (by rw [H1.out, show 13 - k = 12 - k + 1 by omega, HY.out]; omega) : wordF (s.toList.drop a) = _)); rw [show sgF 6 7 (s.toList.drop a) = k by rw [H1.out, show 13 - k = 12 - k + 1 by omega, HY.out], ← HLN.out] at HF; clear hb hb' HLN H1 HY HR; go_wp2
      refine bodyPost_ret (v := wordV ⟨k, 0, ⟨#[]⟩, 0⟩ (a + S.size) 0) (by simp [results, Tryz.results52, go_sem, R4, cell_set_at]) rfl ?_; unfold WordEnd; rw [HF.out]; refine ⟨_, _, rfl, ?_, fun _ => ⟨rfl, by simp only [Int.natCast_add]⟩⟩
      (repeat' (first | with_reducible assumption | with_reducible refine Chg.alloc ?_ _ | with_reducible refine Chg.drew ?_ | with_reducible refine Chg.drewN ?_ _ | with_reducible refine Chg.setCell ?_ (Or.inr ?_) _ | exact Nat.le_refl _ | exact Nat.le_add_right _ _ | (simp; done) | (simp; omega)))
    have e2 : ((s.extract a (a + S.size)).toList == S.toList) = false := by
     rw [beq_eq_false_iff_ne]; intro e; rw [ByteArray.toList_eq, ByteArray.toList_eq] at e; exact g2 (ByteArray.ext (Array.toList_inj.1 e))
    have HN := hid' (sgF_no (12 - k) k (s.toList.drop a) (fun h => g2 (hp.1 h).2)); clear hp g1 g2; go_wp2_with fail
    refine (HSG.out _).mono ?_; rintro r w1 ⟨rfl, rfl⟩; go_wp2_with fail
    go_quiet ((go_at_call 80; exact quiet_lf (HSG.out _)))
    clear wr1; go_wp2_with fail
    go_roundw
    case rel => exact ⟨k + 1, by omega, by omega, by go_num, by rw [H1.out, show 13 - k = 12 - k + 1 by omega, HN.out, show 12 - k = 13 - (k + 1) by omega], X.drewN _, hb⟩
    case measure => simp [intOf]; omega
  obtain rfl : k = 13 := by omega
  have hh : (s.toList.drop a).head? = some s[a] := by rw [drop_at s a ha]; rfl
  have hF0 := HR.out.symm.trans (if_neg (by rw [H1.out]; simp [sgF]) : wordF (s.toList.drop a) = _); rw [hh] at hF0; have hb0 := hb; clear HR H1 hb hh; have hge : w.heap.size ≤ wr.heap.size := X.size; have hb := hb0; clear hb0
  by_cases e40 : s[a] = 40
  · have u40 := u8T 40 e40 (40 : Int); have hF1 := hF0.trans (if_pos (.inl (by rw [e40]))); have htl := takeF_len (s.toList.drop a); rw [List.length_drop, size_lst] at htl; have hts := take_any (s.extract a s.size) (by have := ext_size s a s.size (Nat.le_refl _); omega) wr; rw [ext_end] at hts; generalize takeF (s.toList.drop a) = T at *; obtain ⟨te, tb, tn⟩ := T; simp only at hts hF1 htl; have HT := hid' hts; have HF := hid' hF1; clear hts hF1 hF0 e40; go_wp2_with fail
    refine HT.out.mono ?_; rintro r w2 ⟨rfl, X2⟩; have hb2 := X2.blk hb id; have R4 := cells_of hb2; have Z4 := free_of hb2; have l4 := blk_lt hb2; have X3 := X.trans X2; clear hb hb2 HT; go_wp2
    refine bodyPost_ret (v := wordV ⟨6, 0, bytesB tb, 0⟩ (a + tn) te) (by simp [results, Tryz.results52, go_sem, R4, cell_set_at]) rfl ?_; unfold WordEnd; rw [HF.out]; refine ⟨_, _, rfl, ?_, fun _ => ⟨rfl, by simp only [Int.natCast_add]⟩⟩
    (repeat' (first | with_reducible assumption | with_reducible refine Chg.alloc ?_ _ | with_reducible refine Chg.drew ?_ | with_reducible refine Chg.drewN ?_ _ | with_reducible refine Chg.setCell ?_ (Or.inr ?_) _ | exact Nat.le_refl _ | exact Nat.le_add_right _ _ | (simp; done) | (simp; omega)))
  have u40 := u8F 40 e40 (40 : Int)
  by_cases e60 : s[a] = 60
  · have u60 := u8T 60 e60 (60 : Int); have hF1 := hF0.trans (if_pos (.inr (by rw [e60]))); clear e60; have htl := takeF_len (s.toList.drop a); rw [List.length_drop, size_lst] at htl; have hts := take_any (s.extract a s.size) (by have := ext_size s a s.size (Nat.le_refl _); omega) wr; rw [ext_end] at hts; generalize takeF (s.toList.drop a) = T at *; obtain ⟨te, tb, tn⟩ := T; simp only at hts hF1 htl; have HT := hid' hts; have HF := hid' hF1; clear hts hF1 hF0 e40; go_wp2_with fail
    refine HT.out.mono ?_; rintro r w2 ⟨rfl, X2⟩; have hb2 := X2.blk hb id; have R4 := cells_of hb2; have Z4 := free_of hb2; have l4 := blk_lt hb2; have X3 := X.trans X2; clear hb hb2 HT; go_wp2
    refine bodyPost_ret (v := wordV ⟨6, 0, bytesB tb, 0⟩ (a + tn) te) (by simp [results, Tryz.results52, go_sem, R4, cell_set_at]) rfl ?_; unfold WordEnd; rw [HF.out]; refine ⟨_, _, rfl, ?_, fun _ => ⟨rfl, by simp only [Int.natCast_add]⟩⟩
    (repeat' (first | with_reducible assumption | with_reducible refine Chg.alloc ?_ _ | with_reducible refine Chg.drew ?_ | with_reducible refine Chg.drewN ?_ _ | with_reducible refine Chg.setCell ?_ (Or.inr ?_) _ | exact Nat.le_refl _ | exact Nat.le_add_right _ _ | (simp; done) | (simp; omega)))
  have u60 := u8F 60 e60 (60 : Int); have hF1 := hF0.trans (if_neg (by rintro (h | h); exact e40 (by simpa using h); exact e60 (by simpa using h))); clear hF0 e40 e60; have R4 := cells_of hb; have Z4 := free_of hb; have l4 := blk_lt hb
  by_cases e62 : s[a] = 62
  · have u62 := u8T 62 e62 (62 : Int); have HF := hid' (hF1.trans (if_pos (.inl (by rw [e62])))); clear hF1 e62 hb; go_wp2
    refine bodyPost_ret (v := wordV Tok.nil 0 3) (by simp [results, Tryz.results52, go_sem, R4, cell_set_at, Tok.nil]) rfl ?_; unfold WordEnd; rw [HF.out]; refine ⟨Tok.nil, 0, rfl, ?_, fun h => absurd h (by decide)⟩
    (repeat' (first | with_reducible assumption | with_reducible refine Chg.alloc ?_ _ | with_reducible refine Chg.drew ?_ | with_reducible refine Chg.drewN ?_ _ | with_reducible refine Chg.setCell ?_ (Or.inr ?_) _ | exact Nat.le_refl _ | exact Nat.le_add_right _ _ | (simp; done) | (simp; omega)))
  have u62 := u8F 62 e62 (62 : Int)
  by_cases e41 : s[a] = 41
  · have u41 := u8T 41 e41 (41 : Int); have HF := hid' (hF1.trans (if_pos (.inr (by rw [e41])))); clear hF1 e41 e62 hb; go_wp2
    refine bodyPost_ret (v := wordV Tok.nil 0 3) (by simp [results, Tryz.results52, go_sem, R4, cell_set_at, Tok.nil]) rfl ?_; unfold WordEnd; rw [HF.out]; refine ⟨Tok.nil, 0, rfl, ?_, fun h => absurd h (by decide)⟩
    (repeat' (first | with_reducible assumption | with_reducible refine Chg.alloc ?_ _ | with_reducible refine Chg.drew ?_ | with_reducible refine Chg.drewN ?_ _ | with_reducible refine Chg.setCell ?_ (Or.inr ?_) _ | exact Nat.le_refl _ | exact Nat.le_add_right _ _ | (simp; done) | (simp; omega)))
  have u41 := u8F 41 e41 (41 : Int); have hF2 := hF1.trans (if_neg (by rintro (h | h); exact e62 (by simpa using h); exact e41 (by simpa using h))); clear hF1 e62 e41
  by_cases e47 : s[a] = 47
  · have u47 := u8T 47 e47 (47 : Int); have hF3 := hF2.trans (if_pos (by rw [e47])); clear hF2 e47
    by_cases hn : a + 1 < s.size
    · have hn' : (a : Int) + 1 < s.size := by omega
      have hh : ((s.toList.drop a).drop 1).head? = some s[a + 1] := by rw [List.drop_drop, drop_at s (a + 1) hn]; rfl
      rw [hh] at hF3
      by_cases e2 : s[a + 1] = 47
      · have v47 := u8T 47 e2 (47 : Int); have hF4 := hF3.trans (if_pos (by rw [e2])); rw [List.drop_drop] at hF4; have HN := hid' (tname_any s (a + 2) 5 hs (by omega) wr); generalize nameF 5 (s.toList.drop (a + 2)) = N at *; obtain ⟨ne, nt, nn⟩ := N; simp only at hF4; have HF := hid' hF4; clear hF4 hF3 hh e2; go_wp2_with fail
        refine HN.out.mono ?_; rintro r w2 ⟨nt', nx, rfl, X2, hq⟩; have HQ := hid' hq; have hb2 := X2.blk hb id; have R4 := cells_of hb2; have Z4 := free_of hb2; have l4 := blk_lt hb2; have X3 := X.trans X2; clear hb hb2 HN hq; obtain ⟨nk, nv, ns, np⟩ := nt'; go_wp2
        refine bodyPost_ret (v := wordV ⟨nk, nv, ns, np⟩ nx ne) (by simp [results, Tryz.results52, go_sem, R4, cell_set_at]) rfl ?_; unfold WordEnd; rw [HF.out]; refine ⟨_, _, rfl, ?_, fun h => ⟨(HQ.out h).1, by rw [(HQ.out h).2]; simp only [Nat.add_assoc]⟩⟩
        (repeat' (first | with_reducible assumption | with_reducible refine Chg.alloc ?_ _ | with_reducible refine Chg.drew ?_ | with_reducible refine Chg.drewN ?_ _ | with_reducible refine Chg.setCell ?_ (Or.inr ?_) _ | exact Nat.le_refl _ | exact Nat.le_add_right _ _ | (simp; done) | (simp; omega)))
      · have v47 := u8F 47 e2 (47 : Int); have hF4 := hF3.trans (if_neg (by simpa using e2)); have HN := hid' (tname_any s (a + 1) 4 hs (by omega) wr); rw [List.drop_drop] at hF4; generalize nameF 4 (s.toList.drop (a + 1)) = N at *; obtain ⟨ne, nt, nn⟩ := N; simp only at hF4; have HF := hid' hF4; clear hF4 hF3 hh e2; go_wp2_with fail
        refine HN.out.mono ?_; rintro r w2 ⟨nt', nx, rfl, X2, hq⟩; have HQ := hid' hq; have hb2 := X2.blk hb id; have R4 := cells_of hb2; have Z4 := free_of hb2; have l4 := blk_lt hb2; have X3 := X.trans X2; clear hb hb2 HN hq; obtain ⟨nk, nv, ns, np⟩ := nt'; go_wp2
        refine bodyPost_ret (v := wordV ⟨nk, nv, ns, np⟩ nx ne) (by simp [results, Tryz.results52, go_sem, R4, cell_set_at]) rfl ?_; unfold WordEnd; rw [HF.out]; refine ⟨_, _, rfl, ?_, fun h => ⟨(HQ.out h).1, by rw [(HQ.out h).2]; simp only [Nat.add_assoc]⟩⟩
        (repeat' (first | with_reducible assumption | with_reducible refine Chg.alloc ?_ _ | with_reducible refine Chg.drew ?_ | with_reducible refine Chg.drewN ?_ _ | with_reducible refine Chg.setCell ?_ (Or.inr ?_) _ | exact Nat.le_refl _ | exact Nat.le_add_right _ _ | (simp; done) | (simp; omega)))
    · have hn' : (s.size : Int) ≤ (a : Int) + 1 := by omega
      have hh : ((s.toList.drop a).drop 1).head? = none := by rw [List.drop_drop, drop_end s (a + 1) (by omega)]; rfl
      rw [hh] at hF3; have hF4 := hF3.trans (if_neg (by simp)); have HN := hid' (tname_any s (a + 1) 4 hs (by omega) wr); rw [List.drop_drop] at hF4; generalize nameF 4 (s.toList.drop (a + 1)) = N at *; obtain ⟨ne, nt, nn⟩ := N; simp only at hF4; have HF := hid' hF4; clear hF4 hF3 hh; go_wp2_with fail
      refine HN.out.mono ?_; rintro r w2 ⟨nt', nx, rfl, X2, hq⟩; have HQ := hid' hq; have hb2 := X2.blk hb id; have R4 := cells_of hb2; have Z4 := free_of hb2; have l4 := blk_lt hb2; have X3 := X.trans X2; clear hb hb2 HN hq; obtain ⟨nk, nv, ns, np⟩ := nt'; go_wp2
      refine bodyPost_ret (v := wordV ⟨nk, nv, ns, np⟩ nx ne) (by simp [results, Tryz.results52, go_sem, R4, cell_set_at]) rfl ?_; unfold WordEnd; rw [HF.out]; refine ⟨_, _, rfl, ?_, fun h => ⟨(HQ.out h).1, by rw [(HQ.out h).2]; simp only [Nat.add_assoc]⟩⟩
      (repeat' (first | with_reducible assumption | with_reducible refine Chg.alloc ?_ _ | with_reducible refine Chg.drew ?_ | with_reducible refine Chg.drewN ?_ _ | with_reducible refine Chg.setCell ?_ (Or.inr ?_) _ | exact Nat.le_refl _ | exact Nat.le_add_right _ _ | (simp; done) | (simp; omega)))
  have u47 := u8F 47 e47 (47 : Int); have hF3 := hF2.trans (if_neg (by simpa using e47)); clear hF2 e47; have hnl := regL_le (s.toList.drop a); rw [List.length_drop, size_lst] at hnl; have hx := extract_lst s a (regL (s.toList.drop a)) (by omega); have hreg := regular_any s a hs (by omega) wr; have hrd := fun w => read_any (s.extract a (a + regL (s.toList.drop a))) (by have := ext_size s a (a + regL (s.toList.drop a)) (by omega); omega) w
  have hxl : (s.extract a (a + regL (s.toList.drop a))).toList = (s.toList.drop a).take (regL (s.toList.drop a)) := by rw [hx]; exact bytesB_lst _
  rw [hxl] at hrd; clear hxl; have HNM := hid' (fun w => tname_any s a 3 hs (by omega) w); generalize nameF 3 (s.toList.drop a) = N at *; generalize readF ((s.toList.drop a).take (regL (s.toList.drop a))) = RD at *; generalize regL (s.toList.drop a) = n at *
  have hsum : (a : Int) + n ≤ s.size := by omega
  have HRG := hid' hreg; have HRD := hid' hrd; clear hreg hrd hx R4 Z4 l4; obtain ⟨rk, rv, re⟩ := RD; simp only at hF3
  by_cases c0 : re = 0
  · subst c0; have HF := hid' (hF3.trans (if_pos rfl)); clear hF3; go_wp2_with fail
    refine HRG.out.mono ?_; rintro r w2 ⟨rfl, rfl⟩; go_wp2_with fail
    refine (HRD.out _).mono ?_; rintro r w2 ⟨rfl, X2⟩; have hb2 := X2.blk hb id; have R4 := cells_of hb2; have Z4 := free_of hb2; have l4 := blk_lt hb2; have X3 := X.trans X2; clear hb hb2 HRG HRD HNM; go_wp2
    refine bodyPost_ret (v := wordV ⟨rk, rv, ⟨#[]⟩, 0⟩ (a + n) 0) (by simp [results, Tryz.results52, go_sem, R4, cell_set_at]) rfl ?_; unfold WordEnd; rw [HF.out]; refine ⟨_, _, rfl, ?_, fun _ => ⟨rfl, by simp only [Int.natCast_add]⟩⟩
    (repeat' (first | with_reducible assumption | with_reducible refine Chg.alloc ?_ _ | with_reducible refine Chg.drew ?_ | with_reducible refine Chg.drewN ?_ _ | with_reducible refine Chg.setCell ?_ (Or.inr ?_) _ | exact Nat.le_refl _ | exact Nat.le_add_right _ _ | (simp; done) | (simp; omega)))
  have c0' : (re == 0) = false := by simpa using c0
  by_cases c2 : re = 2
  · subst c2; have HF := hid' (hF3.trans ((if_neg c0).trans (if_pos rfl))); clear hF3 c0; go_wp2_with fail
    refine HRG.out.mono ?_; rintro r w2 ⟨rfl, rfl⟩; go_wp2_with fail
    refine (HRD.out _).mono ?_; rintro r w2 ⟨rfl, X2⟩; have hb2 := X2.blk hb id; have R4 := cells_of hb2; have Z4 := free_of hb2; have l4 := blk_lt hb2; have X3 := X.trans X2; clear hb hb2 HRG HRD HNM; go_wp2
    refine bodyPost_ret (v := wordV Tok.nil 0 2) (by simp [results, Tryz.results52, go_sem, R4, cell_set_at, Tok.nil]) rfl ?_; unfold WordEnd; rw [HF.out]; refine ⟨Tok.nil, 0, rfl, ?_, fun h => absurd h (by decide)⟩
    (repeat' (first | with_reducible assumption | with_reducible refine Chg.alloc ?_ _ | with_reducible refine Chg.drew ?_ | with_reducible refine Chg.drewN ?_ _ | with_reducible refine Chg.setCell ?_ (Or.inr ?_) _ | exact Nat.le_refl _ | exact Nat.le_add_right _ _ | (simp; done) | (simp; omega)))
  have c2' : (re == 2) = false := by simpa using c2
  have HF := hid' (hF3.trans ((if_neg c0).trans (if_neg c2))); clear hF3 c0 c2; go_wp2_with fail
  refine HRG.out.mono ?_; rintro r w2 ⟨rfl, rfl⟩; go_wp2_with fail
  refine (HRD.out _).mono ?_; rintro r w2 ⟨rfl, X2⟩; have hb2 := X2.blk hb id; have X3 := X.trans X2; clear hb HRG HRD; go_wp2_with fail
  refine (HNM.out _).mono ?_; rintro r w3 ⟨nt', nx, rfl, X4, hq⟩; have HQ := hid' hq; have hb3 := X4.blk hb2 id; have R4 := cells_of hb3; have Z4 := free_of hb3; have l4 := blk_lt hb3; have X5 := X3.trans X4; clear hb2 hb3 HNM hq; obtain ⟨nk, nv, ns, np⟩ := nt'; obtain ⟨ne, nt, nn⟩ := N; go_wp2
  refine bodyPost_ret (v := wordV ⟨nk, nv, ns, np⟩ nx ne) (by simp [results, Tryz.results52, go_sem, R4, cell_set_at]) rfl ?_; unfold WordEnd; rw [HF.out]; refine ⟨_, _, rfl, ?_, fun h => HQ.out h⟩
  (repeat' (first | with_reducible assumption | with_reducible refine Chg.alloc ?_ _ | with_reducible refine Chg.drew ?_ | with_reducible refine Chg.drewN ?_ _ | with_reducible refine Chg.setCell ?_ (Or.inr ?_) _ | exact Nat.le_refl _ | exact Nat.le_add_right _ _ | (simp; done) | (simp; omega)))
def nextF (l : List UInt8) : Int × Tok × Nat × Nat :=
 if l.drop (skipL false l) = [] then (0, Tok.nil, skipL false l, 0)
 else if (wordF (l.drop (skipL false l))).1 = 0 then (0, (wordF (l.drop (skipL false l))).2.1, skipL false l, (wordF (l.drop (skipL false l))).2.2)
 else ((wordF (l.drop (skipL false l))).1, Tok.nil, skipL false l, 0)
def tokAt (a : Nat) (l : List UInt8) : Tok := if l.drop (skipL false l) = [] ∨ (nextF l).1 ≠ 0 then Tok.nil else { (nextF l).2.1 with pos := ((a + skipL false l : Nat) : Int) }
abbrev nextV (a : Nat) (l : List UInt8) : Value := wordV (tokAt a l) ((a + (nextF l).2.2.1 + (nextF l).2.2.2 : Nat) : Int) (nextF l).1
theorem skipL_len : ∀ (b : Bool) (l : List UInt8), skipL b l ≤ l.length
 | true, [] => Nat.le_refl _
 | false, [] => Nat.le_refl _
 | true, c :: t => by
  have h1 := skipL_len false t; have h2 := skipL_len true t
  rw [skipL]; simp only [List.length_cons]; split <;> omega
 | false, c :: t => by
  have h1 := skipL_len false t; have h2 := skipL_len true t; rw [skipL]; simp only [List.length_cons]; split; · omega
  split <;> omega
set_option maxRecDepth 100000 in
set_option maxHeartbeats 400000 in
theorem next_any (s : ByteArray) (a : Nat) (hs : s.size ≤ 1000000) (ha : a ≤ s.size) (w : World) :
 Calls Tryz.prog 32 #[.string s, .int .i64 a] w fun r w' => r = .returned (nextV a (s.toList.drop a)) ∧ Chg NoB w w' := by
 have ha' : (a : Int) ≤ s.size := by omega
 have hsk := skip_any s a hs ha; have hl := skipL_len false (s.toList.drop a); rw [List.length_drop, size_lst] at hl
 have hN : nextF (s.toList.drop a) = if (s.toList.drop a).drop (skipL false (s.toList.drop a)) = [] then (0, Tok.nil, skipL false (s.toList.drop a), 0)
  else if (wordF ((s.toList.drop a).drop (skipL false (s.toList.drop a)))).1 = 0 then (0, (wordF ((s.toList.drop a).drop (skipL false (s.toList.drop a)))).2.1, skipL false (s.toList.drop a), (wordF ((s.toList.drop a).drop (skipL false (s.toList.drop a)))).2.2)
  else ((wordF ((s.toList.drop a).drop (skipL false (s.toList.drop a)))).1, Tok.nil, skipL false (s.toList.drop a), 0) := rfl
 have hT : tokAt a (s.toList.drop a) = if (s.toList.drop a).drop (skipL false (s.toList.drop a)) = [] ∨ (nextF (s.toList.drop a)).1 ≠ 0 then Tok.nil else { (nextF (s.toList.drop a)).2.1 with pos := ((a + skipL false (s.toList.drop a) : Nat) : Int) } := rfl
 rw [List.drop_drop] at hN hT; change Calls _ _ _ _ (fun r w' => r = .returned (wordV (tokAt a (s.toList.drop a)) ((a + (nextF (s.toList.drop a)).2.2.1 + (nextF (s.toList.drop a)).2.2.2 : Nat) : Int) (nextF (s.toList.drop a)).1) ∧ Chg NoB w w'); generalize tokAt a (s.toList.drop a) = T at *; generalize nextF (s.toList.drop a) = N at *; generalize skipL false (s.toList.drop a) = k at *; generalize hj : a + k = j at *
 have hjs : j ≤ s.size := by omega
 have hjk : a + k ≤ j ∧ j ≤ a + k := by omega
 have HJ := hid' hj; have HSK := hid' hsk; clear hsk hj
 by_cases c : j = s.size
 · have c1 : ((j : Int) == (s.size : Int)) = true := by rw [c]; simp
   have c2 : (j == s.size) = true := by rw [c]; simp
   have hd : s.toList.drop j = [] := drop_end s j (by omega); have hN1 := hN.trans (if_pos hd); have HT := hid' (hT.trans (if_pos (.inl hd))); have HN := hid' hN1; clear hN hN1 hT hd c; go_enter Tryz.func32, Tryz.ntmps32
   go_wp2_with fail
   refine (HSK.out _).mono ?_; rintro r w1 ⟨rfl, rfl⟩; go_wp2
   refine bodyPost_ret (v := wordV Tok.nil j 0) (by simp [results, Tryz.results32, go_sem, Tok.nil]) rfl ?_; refine ⟨?_, (Chg.refl NoB w).alloc _⟩; rw [HT.out, HN.out]; simp only [HJ.out, Nat.add_zero]
 · have c1 : ((j : Int) == (s.size : Int)) = false := by simp; omega
   have c2 : (j == s.size) = false := by simpa using c
   have hjl : j < s.size := by omega
   have hd : ¬ s.toList.drop j = [] := by rw [drop_at s j hjl]; simp
   have hN1 := hN.trans (if_neg hd); have HW := hid' (fun w => word_any s j hs hjl w); generalize wordF (s.toList.drop j) = W at *; obtain ⟨we, wt, wn⟩ := W; simp only at hN1; clear hN c
   by_cases e0 : we = 0
   · subst e0; have hN2 := hN1.trans (if_pos rfl); have HT := hid' (hT.trans (if_neg (by rw [hN2]; rintro (h | h); exact hd h; exact h rfl))); have HN := hid' hN2; clear hN1 hN2 hT hd; go_enter Tryz.func32, Tryz.ntmps32
     go_wp2_with fail
     refine (HSK.out _).mono ?_; rintro r w1 ⟨rfl, rfl⟩; go_wp2_with fail
     refine (HW.out _).mono ?_; rintro r w1 ⟨t, nx, rfl, X1, hq⟩; obtain ⟨rfl, rfl⟩ := hq rfl; simp only; have hb := X1.blk (blk_new w (.cells #[.int .i64 0, .int .i64 0, .string ⟨#[]⟩, .int .i64 0] 73)) id; have R4 := cells_of hb; have Z4 := free_of hb; have l4 := blk_lt hb; have X2 := ((Chg.refl NoB w).alloc (.cells #[.int .i64 0, .int .i64 0, .string ⟨#[]⟩, .int .i64 0] 73)).trans X1; clear X1 hq HW HSK; obtain ⟨tk, tv, ts, tp⟩ := t
     go_upto_region 10 with (fail)
     have hb2 := blk_set (blk_set (blk_set (blk_set (blk_set hb 0 (.int .i64 tk)) 1 (.int .i64 tv)) 2 (.string ts)) 3 (.int .i64 tp)) 3 (.int .i64 j); simp only [List.setIfInBounds_toArray, List.set_cons_zero, List.set_cons_succ] at hb2
     have X3 : Chg NoB w (((((w1.setCell ⟨w.heap.size, 0, none⟩ (.int .i64 tk)).setCell ⟨w.heap.size, 1, none⟩ (.int .i64 tv)).setCell ⟨w.heap.size, 2, none⟩ (.string ts)).setCell ⟨w.heap.size, 3, none⟩ (.int .i64 tp)).setCell ⟨w.heap.size, 3, none⟩ (.int .i64 j)) := by (repeat' (first | with_reducible assumption | with_reducible refine Chg.alloc ?_ _ | with_reducible refine Chg.drew ?_ | with_reducible refine Chg.drewN ?_ _ | with_reducible refine Chg.setCell ?_ (Or.inr ?_) _ | exact Nat.le_refl _ | exact Nat.le_add_right _ _ | (simp; done) | (simp; omega)))
     generalize ((((w1.setCell ⟨w.heap.size, 0, none⟩ (.int .i64 tk)).setCell ⟨w.heap.size, 1, none⟩ (.int .i64 tv)).setCell ⟨w.heap.size, 2, none⟩ (.string ts)).setCell ⟨w.heap.size, 3, none⟩ (.int .i64 tp)).setCell ⟨w.heap.size, 3, none⟩ (.int .i64 j) = w2 at *; clear hb R4 Z4 l4 X2; have R4 := cells_of hb2; have Z4 := free_of hb2; have l4 := blk_lt hb2; clear hb2; go_wp2
     refine bodyPost_ret (v := wordV ⟨tk, tv, ts, j⟩ (j + wn) 0) (by simp [results, Tryz.results32, go_sem, R4, cell_set_at]) rfl ?_; refine ⟨?_, ?_⟩
     · rw [HT.out, HN.out]; simp only [HJ.out, Int.natCast_add]
     · (repeat' (first | with_reducible assumption | with_reducible refine Chg.alloc ?_ _ | with_reducible refine Chg.drew ?_ | with_reducible refine Chg.drewN ?_ _ | with_reducible refine Chg.setCell ?_ (Or.inr ?_) _ | exact Nat.le_refl _ | exact Nat.le_add_right _ _ | (simp; done) | (simp; omega)))
   · have hN2 := hN1.trans (if_neg e0); have HT := hid' (hT.trans (if_pos (.inr (by rw [hN2]; exact e0)))); have HN := hid' hN2
     have e0' : (we != 0) = true := by simpa using e0
     clear hN1 hN2 hT hd e0; go_enter Tryz.func32, Tryz.ntmps32
     go_wp2_with fail
     refine (HSK.out _).mono ?_; rintro r w1 ⟨rfl, rfl⟩; go_wp2_with fail
     refine (HW.out _).mono ?_; rintro r w1 ⟨t, nx, rfl, X1, -⟩; have hb := X1.blk (blk_new w (.cells #[.int .i64 0, .int .i64 0, .string ⟨#[]⟩, .int .i64 0] 73)) id; have R4 := cells_of hb; have Z4 := free_of hb; have l4 := blk_lt hb; have X2 := ((Chg.refl NoB w).alloc (.cells #[.int .i64 0, .int .i64 0, .string ⟨#[]⟩, .int .i64 0] 73)).trans X1; clear X1 HW HSK; obtain ⟨tk, tv, ts, tp⟩ := t
     go_upto_region 8 with (fail)
     have hb2 := blk_set (blk_set (blk_set (blk_set hb 0 (.int .i64 tk)) 1 (.int .i64 tv)) 2 (.string ts)) 3 (.int .i64 tp); simp only [List.setIfInBounds_toArray, List.set_cons_zero, List.set_cons_succ] at hb2
     have X3 : Chg NoB w ((((w1.setCell ⟨w.heap.size, 0, none⟩ (.int .i64 tk)).setCell ⟨w.heap.size, 1, none⟩ (.int .i64 tv)).setCell ⟨w.heap.size, 2, none⟩ (.string ts)).setCell ⟨w.heap.size, 3, none⟩ (.int .i64 tp)) := by (repeat' (first | with_reducible assumption | with_reducible refine Chg.alloc ?_ _ | with_reducible refine Chg.drew ?_ | with_reducible refine Chg.drewN ?_ _ | with_reducible refine Chg.setCell ?_ (Or.inr ?_) _ | exact Nat.le_refl _ | exact Nat.le_add_right _ _ | (simp; done) | (simp; omega)))
     generalize (((w1.setCell ⟨w.heap.size, 0, none⟩ (.int .i64 tk)).setCell ⟨w.heap.size, 1, none⟩ (.int .i64 tv)).setCell ⟨w.heap.size, 2, none⟩ (.string ts)).setCell ⟨w.heap.size, 3, none⟩ (.int .i64 tp) = w2 at *; clear hb R4 Z4 l4 X2; have R4 := cells_of hb2; have Z4 := free_of hb2; have l4 := blk_lt hb2; clear hb2; go_wp2
     refine bodyPost_ret (v := wordV Tok.nil j we) (by simp [results, Tryz.results32, go_sem, R4, cell_set_at, Tok.nil]) rfl ?_; refine ⟨?_, ?_⟩
     · rw [HT.out, HN.out]; simp only [HJ.out, Nat.add_zero]
     · (repeat' (first | with_reducible assumption | with_reducible refine Chg.alloc ?_ _ | with_reducible refine Chg.drew ?_ | with_reducible refine Chg.drewN ?_ _ | with_reducible refine Chg.setCell ?_ (Or.inr ?_) _ | exact Nat.le_refl _ | exact Nat.le_add_right _ _ | (simp; done) | (simp; omega)))
theorem parenW_ge : ∀ (n : Nat) (l : List UInt8), l.length ≤ n → ∀ (i deep : Nat) (b : List UInt8), (parenW l i deep b).1 = 0 → i + 1 ≤ (parenW l i deep b).2.2
 | n, [], _, i, deep, b => by rw [parenW]; intro h; simp at h
 | 0, c :: t, h, _, _, _ => by simp at h
 | n + 1, c :: t, h, i, deep, b => by
  have hl : t.length ≤ n := by simpa using h
  have ih := fun l (hl : l.length ≤ n) => parenW_ge n l hl; rw [parenW]
  repeat' split
  all_goals first
   | (intro h; exact absurd h (by decide))
   | exact fun h => Nat.le_trans (by omega) (ih t hl _ _ _ h)
   | exact fun h => Nat.le_trans (by omega) (ih (t.drop 1) (by rw [List.length_drop]; omega) _ _ _ h)
   | exact fun h => Nat.le_trans (by omega) (ih (t.drop (escF t).2.1) (by rw [List.length_drop]; omega) _ _ _ h)
   | exact fun _ => Nat.le_refl _
theorem hexW_ge (l : List UInt8) : ∀ (i : Nat) (half : Int) (b : List UInt8), (hexW l i half b).1 = 0 → i + 1 ≤ (hexW l i half b).2.2 := by
 induction l with
 | nil => intro i half b; rw [hexW]; intro h; simp at h
 | cons c t ih =>
  intro i half b; rw [hexW]
  repeat' split
  all_goals first
   | (intro h; exact absurd h (by decide))
   | exact fun h => Nat.le_trans (by omega) (ih _ _ _ h)
   | exact fun _ => Nat.le_refl _
theorem eightyW_ge (l : List UInt8) : ∀ (i : Nat) (g b : List UInt8), (eightyW l i g b).1 = 0 → i + 1 ≤ (eightyW l i g b).2.2 := by
 induction l with
 | nil => intro i g b; rw [eightyW]; intro h; simp at h
 | cons c t ih =>
  intro i g b; rw [eightyW]
  repeat' split
  all_goals first
   | (intro h; exact absurd h (by decide))
   | exact fun h => Nat.le_trans (by omega) (ih _ _ _ h)
   | exact fun _ => Nat.le_succ _
   | (intro h; exact absurd h (by assumption))
theorem takeF_ge (l : List UInt8) (h : (takeF l).1 = 0) : 1 ≤ (takeF l).2.2 := by
 unfold takeF at h ⊢; split at h
 · rename_i h0
   rw [if_pos h0]; unfold takeW at h ⊢; split at h
   · rename_i h1
     rw [if_pos h1]; exact Nat.le_trans (by omega) (parenW_ge _ _ (Nat.le_refl _) _ _ _ h)
   · rename_i h1
     rw [if_neg h1]; split at h
     · rename_i h2
       rw [if_pos h2]; exact Nat.le_trans (by omega) (eightyW_ge _ _ _ _ h)
     · rename_i h2
       rw [if_neg h2]; split at h
       · rename_i h3
         rw [if_pos h3]; exact Nat.le_trans (by omega) (hexW_ge _ _ _ _ h)
       · simp at h
 · rename_i h0
   exact absurd h h0
theorem skip_stop : ∀ (l : List UInt8), (∀ c t, l.drop (skipL false l) = c :: t → ¬ kindI c.toNat = 1 ∧ ¬ c = 37) ∧ (∀ c t, l.drop (skipL true l) = c :: t → ¬ kindI c.toNat = 1 ∧ ¬ c = 37)
 | [] => ⟨fun c t h => by simp at h, fun c t h => by simp at h⟩
 | x :: l => by
  obtain ⟨ih1, ih2⟩ := skip_stop l; constructor
  · intro c t; rw [skipL]; split
    · rw [Nat.add_comm, List.drop_succ_cons]; exact ih1 c t
    · split
      · rw [Nat.add_comm, List.drop_succ_cons]; exact ih2 c t
      · intro h; rw [List.drop_zero] at h
        injection h with h1 h2
        subst h1; exact ⟨by assumption, by assumption⟩
  · intro c t; rw [skipL]; split
    · rw [Nat.add_comm, List.drop_succ_cons]; exact ih1 c t
    · rw [Nat.add_comm, List.drop_succ_cons]; exact ih2 c t
theorem pre_len (k : Nat) (l : List UInt8) (h : pre k l = true) : (signL k).length ≤ l.length := by
 unfold pre at h; rw [List.isPrefixOf_iff_prefix] at h; exact h.length_le
theorem sgF_spec : ∀ (f k : Nat) (l : List UInt8), sgF f k l ≠ 0 → k ≤ sgF f k l ∧ sgF f k l < k + f ∧ pre (sgF f k l) l = true
 | 0, k, l, h => by simp [sgF] at h
 | f + 1, k, l, h => by
  unfold sgF at h ⊢
  by_cases hp : pre k l = true
  · rw [if_pos hp] at h ⊢; exact ⟨Nat.le_refl _, by omega, hp⟩
  · rw [if_neg hp] at h ⊢; obtain ⟨h1, h2, h3⟩ := sgF_spec f (k + 1) l h; exact ⟨by omega, by omega, h3⟩
theorem sgF_zero : ∀ (f k : Nat) (l : List UInt8), 0 < k → sgF f k l = 0 → ∀ j, k ≤ j → j < k + f → ¬ pre j l = true
 | 0, k, l, _, _, j, h1, h2 => by omega
 | f + 1, k, l, hk, h, j, h1, h2 => by
  unfold sgF at h
  by_cases hp : pre k l = true
  · rw [if_pos hp] at h; omega
  · rw [if_neg hp] at h
    by_cases hj : j = k
    · subst hj; exact hp
    · exact sgF_zero f (k + 1) l (by omega) h j (by omega) (by omega)
theorem signL_len (k : Nat) (h : 7 ≤ k) (h' : k < 13) : 1 ≤ (signL k).length := by
 have : k = 7 ∨ k = 8 ∨ k = 9 ∨ k = 10 ∨ k = 11 ∨ k = 12 := by omega
 rcases this with rfl | rfl | rfl | rfl | rfl | rfl <;> decide
theorem kind_reg (c : UInt8) (h1 : ¬ kindI c.toNat = 1) (h2 : c ≠ 40 ∧ c ≠ 41 ∧ c ≠ 60 ∧ c ≠ 62 ∧ c ≠ 91 ∧ c ≠ 93 ∧ c ≠ 123 ∧ c ≠ 125 ∧ c ≠ 47 ∧ c ≠ 37) : kindI c.toNat = 3 := by
 unfold kindI at h1 ⊢; split at h1
 · simp at h1
 · rename_i hb
   rw [if_neg hb, if_neg]; intro h; have e : ∀ n : UInt8, (c.toNat : Int) = n.toNat → c = n := fun n hn => UInt8.toNat_inj.1 (by omega); obtain ⟨a1, a2, a3, a4, a5, a6, a7, a8, a9, a10⟩ := h2
   rcases h with h | h | h | h | h | h | h | h | h | h
   · exact a1 (e 40 h)
   · exact a2 (e 41 h)
   · exact a3 (e 60 h)
   · exact a4 (e 62 h)
   · exact a5 (e 91 h)
   · exact a6 (e 93 h)
   · exact a7 (e 123 h)
   · exact a8 (e 125 h)
   · exact a9 (e 47 h)
   · exact a10 (e 37 h)
theorem nameF_len (k : Int) (l : List UInt8) : (nameF k l).2.2 ≤ l.length := by
 unfold nameF; split
 · exact Nat.zero_le _
 · exact regL_le l
theorem wordF_len (l : List UInt8) : (wordF l).2.2 ≤ l.length := by
 unfold wordF; split
 · rename_i h
   exact pre_len _ _ (sgF_spec 6 7 l h).2.2
 · split
   · exact takeF_len l
   · split
     · exact Nat.zero_le _
     · split
       · rename_i h
         split
         · rename_i h2
           have := nameF_len 5 (l.drop 2); rw [List.length_drop] at this
           match l, h, h2 with
           | [], h, _ => simp at h
           | [x], _, h2 => simp at h2
           | x :: y :: r, _, _ => simp only [List.length_cons] at this ⊢; omega
         · have := nameF_len 4 (l.drop 1); rw [List.length_drop] at this
           cases l with
           | nil => simp at h
           | cons => simp only [List.length_cons] at this ⊢; omega
       · split
         · exact regL_le l
         · split
           · exact Nat.zero_le _
           · exact nameF_len 3 l
theorem wordF_ge (c : UInt8) (t : List UInt8) (h1 : ¬ kindI c.toNat = 1) (h2 : ¬ c = 37) (h0 : (wordF (c :: t)).1 = 0) : 1 ≤ (wordF (c :: t)).2.2 := by
 unfold wordF at h0 ⊢
 by_cases c1 : sgF 6 7 (c :: t) ≠ 0
 · rw [if_pos c1]; obtain ⟨a1, a2, -⟩ := sgF_spec 6 7 (c :: t) c1; exact signL_len _ a1 a2
 rw [if_neg c1] at h0 ⊢
 by_cases c2 : (c :: t).head? = some 40 ∨ (c :: t).head? = some 60
 · rw [if_pos c2] at h0 ⊢; exact takeF_ge _ h0
 rw [if_neg c2] at h0 ⊢
 by_cases c3 : (c :: t).head? = some 62 ∨ (c :: t).head? = some 41
 · rw [if_pos c3] at h0; simp at h0
 rw [if_neg c3] at h0 ⊢
 by_cases c4 : (c :: t).head? = some 47
 · rw [if_pos c4]; split <;> simp only <;> omega
 rw [if_neg c4] at h0 ⊢; have hz := sgF_zero 6 7 (c :: t) (by omega) (by omega)
 have hn : ∀ k : Nat, 7 ≤ k → k < 13 → ∀ x, signL k = [x] → c ≠ x := fun k hk hk' x hx e => hz k hk hk' (by
  unfold pre; rw [hx, e]; simp [List.isPrefixOf])
 have hr : kindI c.toNat = 3 := kind_reg c h1 ⟨fun e => c2 (.inl (by rw [e]; rfl)), fun e => c3 (.inr (by rw [e]; rfl)), fun e => c2 (.inr (by rw [e]; rfl)), fun e => c3 (.inl (by rw [e]; rfl)),
  hn 9 (by omega) (by omega) 91 rfl, hn 10 (by omega) (by omega) 93 rfl, hn 7 (by omega) (by omega) 123 rfl, hn 8 (by omega) (by omega) 125 rfl, fun e => c4 (by rw [e]; rfl), h2⟩
 have hg : 1 ≤ regL (c :: t) := by
  unfold regL isReg; rw [List.takeWhile_cons, hr]; simp
 split at h0
 · rename_i h3; rw [if_pos h3]; exact hg
 · rename_i h3
   rw [if_neg h3]; split at h0
   · simp at h0
   · rename_i h4
     rw [if_neg h4]; unfold nameF at h0 ⊢; split at h0
     · simp at h0
     · rename_i h5; rw [if_neg h5]; exact hg
theorem next_prog (a : Nat) (l : List UInt8) (h : (tokAt a l).kind ≠ 0) : 1 ≤ (nextF l).2.2.1 + (nextF l).2.2.2 ∧ (nextF l).2.2.1 + (nextF l).2.2.2 ≤ l.length ∧ (tokAt a l).pos = ((a + (nextF l).2.2.1 : Nat) : Int) := by
 unfold tokAt at h ⊢
 by_cases c : l.drop (skipL false l) = [] ∨ (nextF l).1 ≠ 0
 · rw [if_pos c] at h; exact absurd rfl h
 rw [if_neg c]; have c1 : ¬ l.drop (skipL false l) = [] := fun e => c (.inl e); have c2 : (nextF l).1 = 0 := Classical.byContradiction fun e => c (.inr e); have hk := skipL_len false l; have hst := (skip_stop l).1; unfold nextF at c2 ⊢; rw [if_neg c1] at c2 ⊢; split at c2
 · rename_i c3
   rw [if_pos c3]; have hw := wordF_len (l.drop (skipL false l)); rw [List.length_drop] at hw
   cases hd : l.drop (skipL false l) with
   | nil => exact absurd hd c1
   | cons x t =>
    obtain ⟨h1, h2⟩ := hst x t hd; rw [hd] at c3 hw; have := wordF_ge x t h1 h2 c3; refine ⟨by simp only; omega, by simp only; omega, rfl⟩
 · rename_i c3; exact absurd c2 c3
end Go.Proofs.YtpiomapnmempoaaGreat
