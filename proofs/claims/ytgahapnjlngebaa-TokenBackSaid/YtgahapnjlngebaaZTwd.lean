/- Walk: token.name, word. -/
import Derived.Test.YtgahapnjlngebaaZTsk
import Derived.Test.YtgahapnjlngebaaZTrd
import Derived.Test.YtgahapnjlngebaaZTln
namespace Go.Proofs.Ytgahapnjlngebaa
open Go.RowKit

abbrev bytesB (l : List UInt8) : ByteArray := ⟨l.toArray⟩
abbrev nameT (k : Int) (l : List UInt8) : Tok := ⟨k, 0, bytesB l, 0⟩
/-- A name's word: the error, the word, its length. -/
def nameF (k : Int) (l : List UInt8) : Int × Tok × Nat := if 100 < regL l then (5, Tok.nil, 0) else (0, nameT k (l.take (regL l)), regL l)
abbrev wordV (t : Tok) (nx : Int) (e : Int) : Value := .tuple #[t.val, .int .i64 nx, .int .i64 e]
/-- What a way of reading a word leaves: a: where it began. -/
def WordEnd (w : World) (a : Nat) (R : Int × Tok × Nat) (r : Ending) (w' : World) : Prop :=
  ∃ t nx, r = .returned (wordV t nx R.1) ∧ Chg NoB w w' ∧ (R.1 = 0 → t = R.2.1 ∧ nx = ((a + R.2.2 : Nat) : Int))

theorem extract_lst (s : ByteArray) (a n : Nat) (_h : a + n ≤ s.size) : s.extract a (a + n) = bytesB ((s.toList.drop a).take n) := by
  have e : (s.extract a (a + n)).toList = (s.toList.drop a).take n := by
    rw [ByteArray.toList_eq, ByteArray.toList_eq, ByteArray.data_extract]
    simp [List.extract_eq_take_drop]
  have e2 : s.extract a (a + n) = bytesB (s.extract a (a + n)).toList := by
    rw [ByteArray.toList_eq]
  rw [e2, e]

set_option maxRecDepth 100000 in
set_option maxHeartbeats 1000000 in
theorem tname_any (s : ByteArray) (a : Nat) (k : Int) (hs : s.size ≤ 1000000) (ha : a ≤ s.size) (w : World) :
    Calls Try.prog 32 #[.string s, .int .i64 a, .int .i64 k] w (WordEnd w a (nameF k (s.toList.drop a))) := by
  have hR : nameF k (s.toList.drop a) = if 100 < regL (s.toList.drop a) then (5, Tok.nil, 0) else (0, nameT k ((s.toList.drop a).take (regL (s.toList.drop a))), regL (s.toList.drop a)) := rfl
  have hn := regL_le (s.toList.drop a)
  rw [List.length_drop, size_lst] at hn
  have hx := extract_lst s a (regL (s.toList.drop a)) (by omega)
  have hreg := fun w => regular_any s a hs (by omega) w
  generalize nameF k (s.toList.drop a) = R at *
  generalize regL (s.toList.drop a) = n at *
  have HREG := hid' hreg
  have hn' : (n : Int) ≤ (s.size : Int) - a := by omega
  have hsum : (a : Int) + n ≤ s.size := by omega
  clear hreg
  by_cases c : 100 < n
  · have HR := hid' (hR.trans (if_pos c))
    have c' : 100 < (n : Int) := by omega
    clear hR hx c
    go_enter Try.func32, Try.ntmps32
    go_wp2_with fail
    refine (HREG.out _).mono ?_
    rintro r w1 ⟨rfl, rfl⟩
    go_wp2_with fail
    refine bodyPost_ret (v := wordV Tok.nil 0 5) (by simp [results, Try.results32, go_sem, Tok.nil]) rfl ?_
    unfold WordEnd
    rw [HR.out]
    refine ⟨Tok.nil, 0, rfl, ?_, fun h => absurd h (by decide)⟩
    (repeat' (first | with_reducible assumption | with_reducible refine Chg.alloc ?_ _ | with_reducible refine Chg.drew ?_ | with_reducible refine Chg.drewN ?_ _ | with_reducible refine Chg.setCell ?_ (Or.inr ?_) _ | exact Nat.le_refl _ | exact Nat.le_add_right _ _ | (simp; done) | (simp; omega)))
    exact Chg.refl _ _
  · have HR := hid' (hR.trans (if_neg c))
    have c' : (n : Int) ≤ 100 := by omega
    have HX := hid' hx
    clear hR hx c
    go_enter Try.func32, Try.ntmps32
    go_wp2_with fail
    refine (HREG.out _).mono ?_
    rintro r w1 ⟨rfl, rfl⟩
    go_wp2_with fail
    refine bodyPost_ret (v := wordV ⟨k, 0, s.extract a (a + n), 0⟩ (a + n) 0) (by simp [results, Try.results32, go_sem]) rfl ?_
    unfold WordEnd
    rw [HR.out]
    exact ⟨_, _, rfl, (Chg.refl NoB w).alloc _, fun _ => ⟨by rw [HX.out], by simp only [Int.natCast_add]⟩⟩

theorem bytesB_lst (l : List UInt8) : (bytesB l).toList = l := by rw [ByteArray.toList_eq]
theorem ext_end (s : ByteArray) (a : Nat) : (s.extract a s.size).toList = s.toList.drop a := by
  rw [ByteArray.toList_eq, ByteArray.toList_eq, ByteArray.data_extract]
  have : s.size = s.data.toList.length := rfl
  simp only [Array.toList_extract, List.extract_eq_take_drop, this]
  rw [List.take_of_length_le (by simp)]
theorem ext_size (s : ByteArray) (a b : Nat) (h : b ≤ s.size) : (s.extract a b).size ≤ s.size := by
  rw [ByteArray.size_extract]; omega
/-- Does a kind's sign stand here? -/
def pre (k : Nat) (l : List UInt8) : Bool := (signL k).isPrefixOf l
def sgF : Nat → Nat → List UInt8 → Nat
  | 0, _, _ => 0
  | f + 1, k, l => if pre k l = true then k else sgF f (k + 1) l
theorem sgF_yes (f k : Nat) (l : List UInt8) (h : pre k l = true) : sgF (f + 1) k l = k := by rw [sgF, if_pos h]
theorem sgF_no (f k : Nat) (l : List UInt8) (h : ¬ pre k l = true) : sgF (f + 1) k l = sgF f (k + 1) l := by rw [sgF, if_neg h]
theorem pre_iff (s : ByteArray) (a k : Nat) (ha : a ≤ s.size) : pre k (s.toList.drop a) = true ↔ (a + (signB k).size ≤ s.size ∧ s.extract a (a + (signB k).size) = signB k) := by
  have hsz : (signB k).size = (signL k).length := rfl
  unfold pre
  rw [List.isPrefixOf_iff_prefix, List.prefix_iff_eq_take, hsz]
  have hl : (s.toList.drop a).length = s.size - a := by rw [List.length_drop, size_lst]
  constructor
  · intro h
    have h1 : (signL k).length ≤ s.size - a := by rw [h, List.length_take, hl]; omega
    have h2 : a + (signL k).length ≤ s.size := by omega
    refine ⟨h2, ?_⟩
    rw [extract_lst s a _ h2, ← h]
  · rintro ⟨h1, h2⟩
    rw [extract_lst s a _ h1] at h2
    have := congrArg (fun b : ByteArray => b.data.toList) h2
    simpa using this.symm
theorem quiet_lf {P : Program} {f : FuncId} {args : Array Value} {w : World} {n : Nat} {v : Value}
    (h : Calls P f args (w.drewN n) fun e w' => e = .returned v ∧ w.drewN n = w') : Calls P f args (w.drewN n) fun e w'' => e = .returned v ∧ ∃ m, w'' = w.drewN m :=
  h.mono fun _ _ ⟨he, hm⟩ => ⟨he, n, hm.symm⟩
/-- A word: the error, the word, how many bytes it has. -/
def wordF (l : List UInt8) : Int × Tok × Nat :=
  if sgF 6 7 l ≠ 0 then (0, ⟨sgF 6 7 l, 0, ⟨#[]⟩, 0⟩, (signL (sgF 6 7 l)).length)
  else if l.head? = some 40 ∨ l.head? = some 60 then ((takeF l).1, ⟨6, 0, bytesB (takeF l).2.1, 0⟩, (takeF l).2.2)
  else if l.head? = some 62 ∨ l.head? = some 41 then (3, Tok.nil, 0)
  else if l.head? = some 47 then
    if (l.drop 1).head? = some 47 then ((nameF 5 (l.drop 2)).1, (nameF 5 (l.drop 2)).2.1, 2 + (nameF 5 (l.drop 2)).2.2)
    else ((nameF 4 (l.drop 1)).1, (nameF 4 (l.drop 1)).2.1, 1 + (nameF 4 (l.drop 1)).2.2)
  else if (readF (l.take (regL l))).2.2 = 0 then (0, ⟨(readF (l.take (regL l))).1, (readF (l.take (regL l))).2.1, ⟨#[]⟩, 0⟩, regL l)
  else if (readF (l.take (regL l))).2.2 = 2 then (2, Tok.nil, 0)
  else nameF 3 l

set_option maxRecDepth 100000 in
set_option maxHeartbeats 4000000 in
theorem word_any (s : ByteArray) (a : Nat) (hs : s.size ≤ 1000000) (ha : a < s.size) (w : World) :
    Calls Try.prog 19 #[.string s, .int .i64 a] w (WordEnd w a (wordF (s.toList.drop a))) := by
  obtain ⟨R, hR⟩ : ∃ R, wordF (s.toList.drop a) = R := ⟨_, rfl⟩
  rw [hR]
  have HR := hid' hR
  clear hR
  have ha' : (a : Int) < s.size := by omega
  have h0 : (0 : Int) ≤ a := by omega
  go_enter Try.func19, Try.ntmps19
  go_wp2_with fail
  go_loopw [7] (fun kv wr => ∃ k : Nat, 7 ≤ k ∧ k ≤ 13 ∧ kv = .int .i64 k ∧ sgF 6 7 (s.toList.drop a) = sgF (13 - k) k (s.toList.drop a) ∧ Chg NoB w wr ∧ wr.heap[w.heap.size]? = some (.cells #[.int .i64 0, .int .i64 0, .string ⟨#[]⟩, .int .i64 0] 31 (0, 0))) (fun kv _ => 13 - (intOf kv).toNat)
  case atStart => exact ⟨7, by omega, by omega, rfl, rfl, (Chg.refl NoB w).alloc _, blk_new w _⟩
  case round =>
    obtain ⟨k, hk7, hk13, rfl, h1, X, hb⟩ := hrel
    have H1 := hid' h1
    clear h1
    by_cases hk : k < 13
    · have hk' : (k : Int) ≤ 12 := by omega
      have hp := pre_iff s a k (by omega)
      have hsg := fun w => sign_any (k : Int) (by omega) (by omega) w
      have hsz : (signB k).size = (signL k).length := rfl
      have hszb : (signB k).size ≤ 2 := by
        rw [hsz]; unfold signL
        split <;> (try split) <;> (try split) <;> (try split) <;> (try split) <;> (try split) <;> simp
      have HLN := hid' hsz
      clear hsz
      generalize signB (k : Int) = S at *
      have HSG := hid' hsg
      clear hsg
      by_cases g1 : a + S.size ≤ s.size
      rotate_left
      · have g1' : decide (a + S.size ≤ s.size) = false := by simp; omega
        have g1'' : decide ((a : Int) + (S.size : Int) ≤ (s.size : Int)) = false := by simp; omega
        have wr1 : IntKind.i64.wrap ((a : Int) + (S.size : Int)) = (a : Int) + (S.size : Int) := IntWalk.i64_in _ (by omega)
        have HN := hid' (sgF_no (12 - k) k (s.toList.drop a) (fun h => g1 (hp.1 h).1))
        clear hp g1
        go_wp2_with fail
        refine (HSG.out _).mono ?_
        rintro r w1 ⟨rfl, rfl⟩
        go_wp2_with fail
        go_quiet ((go_at_call 26; exact quiet_lf (HSG.out _)))
        clear wr1
        go_wp2_with fail
        go_roundw
        case rel => exact ⟨k + 1, by omega, by omega, by go_num, by rw [H1.out, show 13 - k = 12 - k + 1 by omega, HN.out, show 12 - k = 13 - (k + 1) by omega], X.drewN _, hb⟩
        case measure => simp [intOf]; omega
      have g1' : decide (a + S.size ≤ s.size) = true := by simp; omega
      have g1'' : decide ((a : Int) + (S.size : Int) ≤ (s.size : Int)) = true := by simp; omega
      have g0 : (a : Int) + (S.size : Int) ≤ (s.size : Int) := by omega
      have q0 : (0 : Int) ≤ (a : Int) + (S.size : Int) := by omega
      have q1 : (a : Int) ≤ (a : Int) + (S.size : Int) := by omega
      have q2 : ((a : Int) + (S.size : Int)).toNat = a + S.size := by omega
      have wr1 : IntKind.i64.wrap ((a : Int) + (S.size : Int)) = (a : Int) + (S.size : Int) := IntWalk.i64_in _ (by omega)
      by_cases g2 : s.extract a (a + S.size) = S
      · have HY := hid' (sgF_yes (12 - k) k (s.toList.drop a) (hp.2 ⟨g1, g2⟩))
        have e2 : ((s.extract a (a + S.size)).toList == S.toList) = true := by rw [g2]; simp
        clear hp g1 g2
        go_wp2_with fail
        refine (HSG.out _).mono ?_
        rintro r w1 ⟨rfl, rfl⟩
        go_wp2_with fail
        go_quiet ((go_at_call 26; exact quiet_lf (HSG.out _)))
        clear wr1
        have X' := X.drewN nq
        have hb' : (wr.drewN nq).heap[w.heap.size]? = some (.cells #[.int .i64 0, .int .i64 0, .string ⟨#[]⟩, .int .i64 0] 31 (0, 0)) := hb
        generalize wr.drewN nq = w2 at *
        have R4 := cells_of hb'
        have Z4 := free_of hb'
        have l4 := blk_lt hb'
        have HF := hid' (HR.out.symm.trans (if_pos (by rw [H1.out, show 13 - k = 12 - k + 1 by omega, HY.out]; omega) : wordF (s.toList.drop a) = _))
        rw [show sgF 6 7 (s.toList.drop a) = k by rw [H1.out, show 13 - k = 12 - k + 1 by omega, HY.out], ← HLN.out] at HF
        clear hb hb' HLN H1 HY HR
        go_wp2
        refine bodyPost_ret (v := wordV ⟨k, 0, ⟨#[]⟩, 0⟩ (a + S.size) 0) (by simp [results, Try.results19, go_sem, R4, cell_set_at]) rfl ?_
        unfold WordEnd
        rw [HF.out]
        refine ⟨_, _, rfl, ?_, fun _ => ⟨rfl, by simp only [Int.natCast_add]⟩⟩
        (repeat' (first | with_reducible assumption | with_reducible refine Chg.alloc ?_ _ | with_reducible refine Chg.drew ?_ | with_reducible refine Chg.drewN ?_ _ | with_reducible refine Chg.setCell ?_ (Or.inr ?_) _ | exact Nat.le_refl _ | exact Nat.le_add_right _ _ | (simp; done) | (simp; omega)))
      have e2 : ((s.extract a (a + S.size)).toList == S.toList) = false := by
        rw [beq_eq_false_iff_ne]
        intro e
        rw [ByteArray.toList_eq, ByteArray.toList_eq] at e
        exact g2 (ByteArray.ext (Array.toList_inj.1 e))
      have HN := hid' (sgF_no (12 - k) k (s.toList.drop a) (fun h => g2 (hp.1 h).2))
      clear hp g1 g2
      go_wp2_with fail
      refine (HSG.out _).mono ?_
      rintro r w1 ⟨rfl, rfl⟩
      go_wp2_with fail
      go_quiet ((go_at_call 26; exact quiet_lf (HSG.out _)))
      clear wr1
      go_wp2_with fail
      go_roundw
      case rel => exact ⟨k + 1, by omega, by omega, by go_num, by rw [H1.out, show 13 - k = 12 - k + 1 by omega, HN.out, show 12 - k = 13 - (k + 1) by omega], X.drewN _, hb⟩
      case measure => simp [intOf]; omega
    obtain rfl : k = 13 := by omega
    have hh : (s.toList.drop a).head? = some s[a] := by rw [drop_at s a ha]; rfl
    have hF0 := HR.out.symm.trans (if_neg (by rw [H1.out]; simp [sgF]) : wordF (s.toList.drop a) = _)
    rw [hh] at hF0
    have hb0 := hb
    clear HR H1 hb hh
    have hge : w.heap.size ≤ wr.heap.size := X.size
    have hb := hb0
    clear hb0
    by_cases e40 : s[a] = 40
    · have u40 := u8T 40 e40 (40 : Int)
      have hF1 := hF0.trans (if_pos (.inl (by rw [e40])))
      have htl := takeF_len (s.toList.drop a)
      rw [List.length_drop, size_lst] at htl
      have hts := take_any (s.extract a s.size) (by have := ext_size s a s.size (Nat.le_refl _); omega) wr
      rw [ext_end] at hts
      generalize takeF (s.toList.drop a) = T at *
      obtain ⟨te, tb, tn⟩ := T
      simp only at hts hF1 htl
      have HT := hid' hts
      have HF := hid' hF1
      clear hts hF1 hF0 e40
      go_wp2_with fail
      refine HT.out.mono ?_
      rintro r w2 ⟨rfl, X2⟩
      have hb2 := X2.blk hb id
      have R4 := cells_of hb2
      have Z4 := free_of hb2
      have l4 := blk_lt hb2
      have X3 := X.trans X2
      clear hb hb2 HT
      go_wp2
      refine bodyPost_ret (v := wordV ⟨6, 0, bytesB tb, 0⟩ (a + tn) te) (by simp [results, Try.results19, go_sem, R4, cell_set_at]) rfl ?_
      unfold WordEnd
      rw [HF.out]
      refine ⟨_, _, rfl, ?_, fun _ => ⟨rfl, by simp only [Int.natCast_add]⟩⟩
      (repeat' (first | with_reducible assumption | with_reducible refine Chg.alloc ?_ _ | with_reducible refine Chg.drew ?_ | with_reducible refine Chg.drewN ?_ _ | with_reducible refine Chg.setCell ?_ (Or.inr ?_) _ | exact Nat.le_refl _ | exact Nat.le_add_right _ _ | (simp; done) | (simp; omega)))
    have u40 := u8F 40 e40 (40 : Int)
    by_cases e60 : s[a] = 60
    · have u60 := u8T 60 e60 (60 : Int)
      have hF1 := hF0.trans (if_pos (.inr (by rw [e60])))
      clear e60
      have htl := takeF_len (s.toList.drop a)
      rw [List.length_drop, size_lst] at htl
      have hts := take_any (s.extract a s.size) (by have := ext_size s a s.size (Nat.le_refl _); omega) wr
      rw [ext_end] at hts
      generalize takeF (s.toList.drop a) = T at *
      obtain ⟨te, tb, tn⟩ := T
      simp only at hts hF1 htl
      have HT := hid' hts
      have HF := hid' hF1
      clear hts hF1 hF0 e40
      go_wp2_with fail
      refine HT.out.mono ?_
      rintro r w2 ⟨rfl, X2⟩
      have hb2 := X2.blk hb id
      have R4 := cells_of hb2
      have Z4 := free_of hb2
      have l4 := blk_lt hb2
      have X3 := X.trans X2
      clear hb hb2 HT
      go_wp2
      refine bodyPost_ret (v := wordV ⟨6, 0, bytesB tb, 0⟩ (a + tn) te) (by simp [results, Try.results19, go_sem, R4, cell_set_at]) rfl ?_
      unfold WordEnd
      rw [HF.out]
      refine ⟨_, _, rfl, ?_, fun _ => ⟨rfl, by simp only [Int.natCast_add]⟩⟩
      (repeat' (first | with_reducible assumption | with_reducible refine Chg.alloc ?_ _ | with_reducible refine Chg.drew ?_ | with_reducible refine Chg.drewN ?_ _ | with_reducible refine Chg.setCell ?_ (Or.inr ?_) _ | exact Nat.le_refl _ | exact Nat.le_add_right _ _ | (simp; done) | (simp; omega)))
    have u60 := u8F 60 e60 (60 : Int)
    have hF1 := hF0.trans (if_neg (by rintro (h | h); exact e40 (by simpa using h); exact e60 (by simpa using h)))
    clear hF0 e40 e60
    have R4 := cells_of hb
    have Z4 := free_of hb
    have l4 := blk_lt hb
    by_cases e62 : s[a] = 62
    · have u62 := u8T 62 e62 (62 : Int)
      have HF := hid' (hF1.trans (if_pos (.inl (by rw [e62]))))
      clear hF1 e62 hb
      go_wp2
      refine bodyPost_ret (v := wordV Tok.nil 0 3) (by simp [results, Try.results19, go_sem, R4, cell_set_at, Tok.nil]) rfl ?_
      unfold WordEnd
      rw [HF.out]
      refine ⟨Tok.nil, 0, rfl, ?_, fun h => absurd h (by decide)⟩
      (repeat' (first | with_reducible assumption | with_reducible refine Chg.alloc ?_ _ | with_reducible refine Chg.drew ?_ | with_reducible refine Chg.drewN ?_ _ | with_reducible refine Chg.setCell ?_ (Or.inr ?_) _ | exact Nat.le_refl _ | exact Nat.le_add_right _ _ | (simp; done) | (simp; omega)))
    have u62 := u8F 62 e62 (62 : Int)
    by_cases e41 : s[a] = 41
    · have u41 := u8T 41 e41 (41 : Int)
      have HF := hid' (hF1.trans (if_pos (.inr (by rw [e41]))))
      clear hF1 e41 e62 hb
      go_wp2
      refine bodyPost_ret (v := wordV Tok.nil 0 3) (by simp [results, Try.results19, go_sem, R4, cell_set_at, Tok.nil]) rfl ?_
      unfold WordEnd
      rw [HF.out]
      refine ⟨Tok.nil, 0, rfl, ?_, fun h => absurd h (by decide)⟩
      (repeat' (first | with_reducible assumption | with_reducible refine Chg.alloc ?_ _ | with_reducible refine Chg.drew ?_ | with_reducible refine Chg.drewN ?_ _ | with_reducible refine Chg.setCell ?_ (Or.inr ?_) _ | exact Nat.le_refl _ | exact Nat.le_add_right _ _ | (simp; done) | (simp; omega)))
    have u41 := u8F 41 e41 (41 : Int)
    have hF2 := hF1.trans (if_neg (by rintro (h | h); exact e62 (by simpa using h); exact e41 (by simpa using h)))
    clear hF1 e62 e41
    by_cases e47 : s[a] = 47
    · have u47 := u8T 47 e47 (47 : Int)
      have hF3 := hF2.trans (if_pos (by rw [e47]))
      clear hF2 e47
      by_cases hn : a + 1 < s.size
      · have hn' : (a : Int) + 1 < s.size := by omega
        have hh : ((s.toList.drop a).drop 1).head? = some s[a + 1] := by rw [List.drop_drop, drop_at s (a + 1) hn]; rfl
        rw [hh] at hF3
        by_cases e2 : s[a + 1] = 47
        · have v47 := u8T 47 e2 (47 : Int)
          have hF4 := hF3.trans (if_pos (by rw [e2]))
          rw [List.drop_drop] at hF4
          have HN := hid' (tname_any s (a + 2) 5 hs (by omega) wr)
          generalize nameF 5 (s.toList.drop (a + 2)) = N at *
          obtain ⟨ne, nt, nn⟩ := N
          simp only at hF4
          have HF := hid' hF4
          clear hF4 hF3 hh e2
          go_wp2_with fail
          refine HN.out.mono ?_
          rintro r w2 ⟨nt', nx, rfl, X2, hq⟩
          have HQ := hid' hq
          have hb2 := X2.blk hb id
          have R4 := cells_of hb2
          have Z4 := free_of hb2
          have l4 := blk_lt hb2
          have X3 := X.trans X2
          clear hb hb2 HN hq
          obtain ⟨nk, nv, ns, np⟩ := nt'
          go_wp2
          refine bodyPost_ret (v := wordV ⟨nk, nv, ns, np⟩ nx ne) (by simp [results, Try.results19, go_sem, R4, cell_set_at]) rfl ?_
          unfold WordEnd
          rw [HF.out]
          refine ⟨_, _, rfl, ?_, fun h => ⟨(HQ.out h).1, by rw [(HQ.out h).2]; simp only [Nat.add_assoc]⟩⟩
          (repeat' (first | with_reducible assumption | with_reducible refine Chg.alloc ?_ _ | with_reducible refine Chg.drew ?_ | with_reducible refine Chg.drewN ?_ _ | with_reducible refine Chg.setCell ?_ (Or.inr ?_) _ | exact Nat.le_refl _ | exact Nat.le_add_right _ _ | (simp; done) | (simp; omega)))
        · have v47 := u8F 47 e2 (47 : Int)
          have hF4 := hF3.trans (if_neg (by simpa using e2))
          have HN := hid' (tname_any s (a + 1) 4 hs (by omega) wr)
          rw [List.drop_drop] at hF4
          generalize nameF 4 (s.toList.drop (a + 1)) = N at *
          obtain ⟨ne, nt, nn⟩ := N
          simp only at hF4
          have HF := hid' hF4
          clear hF4 hF3 hh e2
          go_wp2_with fail
          refine HN.out.mono ?_
          rintro r w2 ⟨nt', nx, rfl, X2, hq⟩
          have HQ := hid' hq
          have hb2 := X2.blk hb id
          have R4 := cells_of hb2
          have Z4 := free_of hb2
          have l4 := blk_lt hb2
          have X3 := X.trans X2
          clear hb hb2 HN hq
          obtain ⟨nk, nv, ns, np⟩ := nt'
          go_wp2
          refine bodyPost_ret (v := wordV ⟨nk, nv, ns, np⟩ nx ne) (by simp [results, Try.results19, go_sem, R4, cell_set_at]) rfl ?_
          unfold WordEnd
          rw [HF.out]
          refine ⟨_, _, rfl, ?_, fun h => ⟨(HQ.out h).1, by rw [(HQ.out h).2]; simp only [Nat.add_assoc]⟩⟩
          (repeat' (first | with_reducible assumption | with_reducible refine Chg.alloc ?_ _ | with_reducible refine Chg.drew ?_ | with_reducible refine Chg.drewN ?_ _ | with_reducible refine Chg.setCell ?_ (Or.inr ?_) _ | exact Nat.le_refl _ | exact Nat.le_add_right _ _ | (simp; done) | (simp; omega)))
      · have hn' : (s.size : Int) ≤ (a : Int) + 1 := by omega
        have hh : ((s.toList.drop a).drop 1).head? = none := by rw [List.drop_drop, drop_end s (a + 1) (by omega)]; rfl
        rw [hh] at hF3
        have hF4 := hF3.trans (if_neg (by simp))
        have HN := hid' (tname_any s (a + 1) 4 hs (by omega) wr)
        rw [List.drop_drop] at hF4
        generalize nameF 4 (s.toList.drop (a + 1)) = N at *
        obtain ⟨ne, nt, nn⟩ := N
        simp only at hF4
        have HF := hid' hF4
        clear hF4 hF3 hh
        go_wp2_with fail
        refine HN.out.mono ?_
        rintro r w2 ⟨nt', nx, rfl, X2, hq⟩
        have HQ := hid' hq
        have hb2 := X2.blk hb id
        have R4 := cells_of hb2
        have Z4 := free_of hb2
        have l4 := blk_lt hb2
        have X3 := X.trans X2
        clear hb hb2 HN hq
        obtain ⟨nk, nv, ns, np⟩ := nt'
        go_wp2
        refine bodyPost_ret (v := wordV ⟨nk, nv, ns, np⟩ nx ne) (by simp [results, Try.results19, go_sem, R4, cell_set_at]) rfl ?_
        unfold WordEnd
        rw [HF.out]
        refine ⟨_, _, rfl, ?_, fun h => ⟨(HQ.out h).1, by rw [(HQ.out h).2]; simp only [Nat.add_assoc]⟩⟩
        (repeat' (first | with_reducible assumption | with_reducible refine Chg.alloc ?_ _ | with_reducible refine Chg.drew ?_ | with_reducible refine Chg.drewN ?_ _ | with_reducible refine Chg.setCell ?_ (Or.inr ?_) _ | exact Nat.le_refl _ | exact Nat.le_add_right _ _ | (simp; done) | (simp; omega)))
    have u47 := u8F 47 e47 (47 : Int)
    have hF3 := hF2.trans (if_neg (by simpa using e47))
    clear hF2 e47
    have hnl := regL_le (s.toList.drop a)
    rw [List.length_drop, size_lst] at hnl
    have hx := extract_lst s a (regL (s.toList.drop a)) (by omega)
    have hreg := regular_any s a hs (by omega) wr
    have hrd := fun w => read_any (s.extract a (a + regL (s.toList.drop a))) (by have := ext_size s a (a + regL (s.toList.drop a)) (by omega); omega) w
    have hxl : (s.extract a (a + regL (s.toList.drop a))).toList = (s.toList.drop a).take (regL (s.toList.drop a)) := by rw [hx]; exact bytesB_lst _
    rw [hxl] at hrd
    clear hxl
    have HNM := hid' (fun w => tname_any s a 3 hs (by omega) w)
    generalize nameF 3 (s.toList.drop a) = N at *
    generalize readF ((s.toList.drop a).take (regL (s.toList.drop a))) = RD at *
    generalize regL (s.toList.drop a) = n at *
    have hsum : (a : Int) + n ≤ s.size := by omega
    have HRG := hid' hreg
    have HRD := hid' hrd
    clear hreg hrd hx R4 Z4 l4
    obtain ⟨rk, rv, re⟩ := RD
    simp only at hF3
    by_cases c0 : re = 0
    · subst c0
      have HF := hid' (hF3.trans (if_pos rfl))
      clear hF3
      go_wp2_with fail
      refine HRG.out.mono ?_
      rintro r w2 ⟨rfl, rfl⟩
      go_wp2_with fail
      refine (HRD.out _).mono ?_
      rintro r w2 ⟨rfl, X2⟩
      have hb2 := X2.blk hb id
      have R4 := cells_of hb2
      have Z4 := free_of hb2
      have l4 := blk_lt hb2
      have X3 := X.trans X2
      clear hb hb2 HRG HRD HNM
      go_wp2
      refine bodyPost_ret (v := wordV ⟨rk, rv, ⟨#[]⟩, 0⟩ (a + n) 0) (by simp [results, Try.results19, go_sem, R4, cell_set_at]) rfl ?_
      unfold WordEnd
      rw [HF.out]
      refine ⟨_, _, rfl, ?_, fun _ => ⟨rfl, by simp only [Int.natCast_add]⟩⟩
      (repeat' (first | with_reducible assumption | with_reducible refine Chg.alloc ?_ _ | with_reducible refine Chg.drew ?_ | with_reducible refine Chg.drewN ?_ _ | with_reducible refine Chg.setCell ?_ (Or.inr ?_) _ | exact Nat.le_refl _ | exact Nat.le_add_right _ _ | (simp; done) | (simp; omega)))
    have c0' : (re == 0) = false := by simpa using c0
    by_cases c2 : re = 2
    · subst c2
      have HF := hid' (hF3.trans ((if_neg c0).trans (if_pos rfl)))
      clear hF3 c0
      go_wp2_with fail
      refine HRG.out.mono ?_
      rintro r w2 ⟨rfl, rfl⟩
      go_wp2_with fail
      refine (HRD.out _).mono ?_
      rintro r w2 ⟨rfl, X2⟩
      have hb2 := X2.blk hb id
      have R4 := cells_of hb2
      have Z4 := free_of hb2
      have l4 := blk_lt hb2
      have X3 := X.trans X2
      clear hb hb2 HRG HRD HNM
      go_wp2
      refine bodyPost_ret (v := wordV Tok.nil 0 2) (by simp [results, Try.results19, go_sem, R4, cell_set_at, Tok.nil]) rfl ?_
      unfold WordEnd
      rw [HF.out]
      refine ⟨Tok.nil, 0, rfl, ?_, fun h => absurd h (by decide)⟩
      (repeat' (first | with_reducible assumption | with_reducible refine Chg.alloc ?_ _ | with_reducible refine Chg.drew ?_ | with_reducible refine Chg.drewN ?_ _ | with_reducible refine Chg.setCell ?_ (Or.inr ?_) _ | exact Nat.le_refl _ | exact Nat.le_add_right _ _ | (simp; done) | (simp; omega)))
    have c2' : (re == 2) = false := by simpa using c2
    have HF := hid' (hF3.trans ((if_neg c0).trans (if_neg c2)))
    clear hF3 c0 c2
    go_wp2_with fail
    refine HRG.out.mono ?_
    rintro r w2 ⟨rfl, rfl⟩
    go_wp2_with fail
    refine (HRD.out _).mono ?_
    rintro r w2 ⟨rfl, X2⟩
    have hb2 := X2.blk hb id
    have X3 := X.trans X2
    clear hb HRG HRD
    go_wp2_with fail
    refine (HNM.out _).mono ?_
    rintro r w3 ⟨nt', nx, rfl, X4, hq⟩
    have HQ := hid' hq
    have hb3 := X4.blk hb2 id
    have R4 := cells_of hb3
    have Z4 := free_of hb3
    have l4 := blk_lt hb3
    have X5 := X3.trans X4
    clear hb2 hb3 HNM hq
    obtain ⟨nk, nv, ns, np⟩ := nt'
    obtain ⟨ne, nt, nn⟩ := N
    go_wp2
    refine bodyPost_ret (v := wordV ⟨nk, nv, ns, np⟩ nx ne) (by simp [results, Try.results19, go_sem, R4, cell_set_at]) rfl ?_
    unfold WordEnd
    rw [HF.out]
    refine ⟨_, _, rfl, ?_, fun h => HQ.out h⟩
    (repeat' (first | with_reducible assumption | with_reducible refine Chg.alloc ?_ _ | with_reducible refine Chg.drew ?_ | with_reducible refine Chg.drewN ?_ _ | with_reducible refine Chg.setCell ?_ (Or.inr ?_) _ | exact Nat.le_refl _ | exact Nat.le_add_right _ _ | (simp; done) | (simp; omega)))
end Go.Proofs.Ytgahapnjlngebaa
