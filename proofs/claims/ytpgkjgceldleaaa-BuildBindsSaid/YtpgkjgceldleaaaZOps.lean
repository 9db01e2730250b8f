/- Opp, Ope, Opn -/
import Derived.Test.YtpgkjgceldleaaaProg
import Derived.Test.YtpgkjgceldleaaaZHeapa
import Derived.Lib.Hide
import Derived.Laws.RangeAny
/- The names of the operators, as plain data: the words of one text. -/
namespace Go.Proofs.Ytpgkjgceldleaaa
open Go.RowKit

/-- The text that a function's range goes over (its second region). -/
noncomputable def opS : ByteArray :=
  match Try.f40.body with
  | some (.seq _ (.seq (.region _ ops _) _)) => (match ops[0]? with
    | some i => (match i.op with
      | .range _ (.const (.string s)) => s
      | _ => ⟨#[]⟩)
    | none => ⟨#[]⟩)
  | _ => ⟨#[]⟩
/-- The words: each one's family, and its bytes. -/
def toksL : List UInt8 → Nat → List UInt8 → List (Nat × List UInt8)
  | [], _, _ => []
  | c :: r, fam, cur => if c = 10 then toksL r (fam + 1) [] else if c = 32 then (fam, cur) :: toksL r fam [] else toksL r fam (cur ++ [c])
noncomputable def opT : List (Nat × List UInt8) := toksL opS.data.toList 1 []
set_option maxRecDepth 100000 in
theorem opS_size : opS.size = 1164 := by decide +kernel
set_option maxRecDepth 100000 in
theorem opT_length : opT.length = 162 := by decide +kernel
set_option maxRecDepth 100000 in
theorem opS_all : opS.data.toList.all (fun c => decide (c.toNat < 128)) = true := by decide +kernel
theorem opS_ascii (i : Nat) (h : i < opS.size) : opS[i].toNat < 128 := by
  have hm : opS[i] ∈ opS.data.toList := by
    rw [Array.mem_toList_iff]
    exact Array.getElem_mem (xs := opS.data) h
  exact of_decide_eq_true (List.all_eq_true.1 opS_all _ hm)
theorem opT_sizes : ∀ p ∈ opT, p.2.length ≤ 100 := by decide +kernel
theorem opT_apart : (opT.map Prod.snd).Nodup := by decide +kernel
theorem opT_add : opT[10]? = some (1, [97, 100, 100]) := by decide +kernel
end Go.Proofs.Ytpgkjgceldleaaa
/- Walk: op.each, over whatever function it is given. -/
namespace Go.Proofs.Ytpgkjgceldleaaa
open Go.RowKit

theorem hid_ {p : Prop} (h : p) : Hid p := h
def iterAt (w : World) (b : Nat) (s : ByteArray) (pos : Nat) : World := { w with heap := w.heap.setIfInBounds b (.stringIter s pos) }
theorem Chg.iterAt {S : Nat → Prop} {a w : World} (h : Chg S a w) {b : Nat} (hp : S b ∨ a.heap.size ≤ b) (s : ByteArray) (pos : Nat) : Chg S a (iterAt w b s pos) :=
  ⟨h.os, h.tape, h.output, by simp only [Go.Proofs.Ytpgkjgceldleaaa.iterAt, Array.size_setIfInBounds]; exact h.size,
    fun k hk hn => by
      rw [Go.Proofs.Ytpgkjgceldleaaa.iterAt, Array.getElem?_setIfInBounds_ne (by rintro rfl; rcases hp with hp | hp; exact hn hp; omega)]; exact h.block k hk hn⟩
theorem iterAt_self {w : World} {b : Nat} (h : b < w.heap.size) (s : ByteArray) (pos : Nat) : (iterAt w b s pos).heap[b]? = some (.stringIter s pos) := by
  simp [iterAt, h]
theorem run_next_at {P : Program} (w : World) (b : Nat) (s : ByteArray) (pos : Nat) (ty : TypeId) (hb : w.heap[b]? = some (.stringIter s pos)) (h : pos < s.size) (ha : (s[pos]'h).toNat < 128) :
    (Instr.next (.pointer (some ⟨b, 0, none⟩)) true ty).run P w = .ok (.tuple #[.bool true, .int .i64 pos, .int .i32 (s[pos]'h).toNat]) (iterAt w b s (pos + 1)) := by
  simp [Instr.next, getObj, setObj, Sem.run_bind, Sem.run, hb, Result.andThen, h, decode_ascii s pos h ha, goInt, iterAt]
theorem run_next_over {P : Program} (w : World) (b : Nat) (s : ByteArray) (pos : Nat) (ty : TypeId) (hb : w.heap[b]? = some (.stringIter s pos)) (h : ¬ pos < s.size) :
    (Instr.next (.pointer (some ⟨b, 0, none⟩)) true ty).run P w = .ok (.tuple #[.bool false]) w := by
  simp [Instr.next, getObj, Sem.run, hb, h]

theorem iterPos_at {w : World} {b : Nat} {s : ByteArray} {p : Nat} (h : w.heap[b]? = some (.stringIter s p)) : w.iterPos b = p := by
  simp [World.iterPos, h]
theorem extract_list (N : ByteArray) (a b : Nat) : N.extract a b = ⟨((N.data.toList.drop a).take (b - a)).toArray⟩ := by
  apply ByteArray.ext
  rw [ByteArray.data_extract]
  apply Array.toList_inj.1
  rw [Array.toList_extract, List.extract_eq_take_drop]
theorem u8_ne {c : UInt8} {n : Nat} (h : c ≠ UInt8.ofNat n) (_hn : n < 256) : ((c.toNat : Int) == (n : Int)) = false := by
  simp only [beq_eq_false_iff_ne, ne_eq]
  intro e
  apply h
  have e2 : c.toNat = n := by omega
  rw [← e2]; simp
theorem take_snoc (N : ByteArray) (a b : Nat) (h : a ≤ b) (hb : b < N.size) : (N.data.toList.drop a).take (b - a) ++ [N[b]] = (N.data.toList.drop a).take (b + 1 - a) := by
  have hl : b - a < (N.data.toList.drop a).length := by rw [List.length_drop, Array.length_toList]; change b < N.data.size at hb; omega
  rw [show b + 1 - a = b - a + 1 by omega, List.take_succ_eq_append_getElem hl]
  congr 1
  simp [List.getElem_drop, show a + (b - a) = b by omega]
  rfl
theorem toks_lf (r : List UInt8) (fam : Nat) (cur : List UInt8) : toksL (10 :: r) fam cur = toksL r (fam + 1) [] := by rw [toksL, if_pos rfl]
theorem toks_sp (r : List UInt8) (fam : Nat) (cur : List UInt8) : toksL (32 :: r) fam cur = (fam, cur) :: toksL r fam [] := by rw [toksL, if_neg (by decide), if_pos rfl]
theorem toks_ch (c : UInt8) (r : List UInt8) (fam : Nat) (cur : List UInt8) (h1 : c ≠ 10) (h2 : c ≠ 32) : toksL (c :: r) fam cur = toksL r fam (cur ++ [c]) := by rw [toksL, if_neg h1, if_neg h2]

set_option maxRecDepth 100000 in
set_option maxHeartbeats 4000000 in
theorem each_any (fn : Nat) (caps : Array Value) (hcf : ∀ (args : Array Value) (w : World), (callFunc fn args).run Try.prog w = .ok (.enter fn args) w) (S : Nat → Prop) (J Q : Nat → World → Prop) (w : World) (hS : ∀ i, S i → i < w.heap.size)
    (hJ : ∀ k a b, J k a → Chg (fun i => w.heap.size ≤ i) a b → J k b)
    (hy : ∀ k (h : k < opT.length) w', J k w' → Chg S w w' → Calls Try.prog fn (#[.int .i64 ((k : Int) + 1), .int .i64 opT[k].1, .string ⟨opT[k].2.toArray⟩] ++ caps) w' fun e w2 =>
      Chg S w' w2 ∧ ((e = .returned (.bool true) ∧ J (k + 1) w2) ∨ (e = .returned (.bool false) ∧ Q k w2)))
    (h0 : J 0 w) :
    Calls Try.prog 40 #[.func (.func fn) #[] caps] w fun e w' => e = .returned (.tuple #[]) ∧ Chg S w w' ∧ (J opT.length w' ∨ ∃ k, k < opT.length ∧ Q k w') := by
  go_enter Try.func40, Try.ntmps40
  generalize hV : Value.string _ = V
  obtain rfl : V = .string opS := by rw [← hV]; kernel_rfl
  clear hV
  have hsz := opS_size
  have hTl := opT_length
  have has := hid_ opS_ascii
  have hT : Hid (opT = toksL opS.data.toList 1 []) := hid_ rfl
  generalize opT = T at *
  generalize opS = N at *
  go_wp2_with fail
  go_loopw [2, 3, 4] (fun nv fv rv wr => ∃ (pos fam fr : Nat) (done : List (Nat × List UInt8)) (cur : List UInt8), pos ≤ N.size ∧ fr ≤ pos ∧ nv = .int .i64 ((done.length : Int) + 1) ∧ fv = .int .i64 fam ∧ rv = .int .i64 fr ∧
    fam ≤ 1 + pos ∧ cur = (N.data.toList.drop fr).take (pos - fr) ∧ T = done ++ toksL (N.data.toList.drop pos) fam cur ∧ wr.heap[w.heap.size]? = some (.stringIter N pos) ∧ J done.length wr ∧ Chg S w wr)
    (fun _ _ _ wr => N.size - wr.iterPos w.heap.size)
  case atStart => exact ⟨0, 1, 0, [], [], by omega, by omega, rfl, rfl, rfl, by omega, rfl, hT.out, by rw [World.iter]; exact blk_new .., hJ _ _ _ h0 ((Chg.refl _ _).alloc _), (Chg.refl _ _).alloc _⟩
  case round =>
    obtain ⟨pos, fam, fr, done, cur, hp, hfp, rfl, rfl, rfl, hfa, hcur, hTd, hit, hj, X⟩ := hrel
    clear hT
    by_cases hlt : pos < N.size
    · have hnx : ∀ ty, (Instr.next (.pointer (some ⟨w.heap.size, 0, none⟩)) true ty).run Try.prog wr = _ := fun ty => run_next_at wr w.heap.size N pos ty hit hlt (has.out pos hlt)
      have hcc : (N[pos].toNat : Int) < 128 := by have := has.out pos hlt; omega
      have hdr : N.data.toList.drop pos = N[pos] :: N.data.toList.drop (pos + 1) := List.drop_eq_getElem_cons (by simpa using hlt)
      have HD := hid_ hdr
      clear hdr
      have hi2 : (iterAt wr w.heap.size N (pos + 1)).heap[w.heap.size]? = some (.stringIter N (pos + 1)) := iterAt_self (blk_lt hit) _ _
      have X2 : Chg S w (iterAt wr w.heap.size N (pos + 1)) := X.iterAt (.inr (Nat.le_refl _)) _ _
      have hj2 : J done.length (iterAt wr w.heap.size N (pos + 1)) := hJ _ _ _ hj ((Chg.refl _ _).iterAt (.inl (Nat.le_refl _)) _ _)
      have HT := hid_ hTd
      have HC := hid_ hcur
      clear hTd hcur
      by_cases c1 : N[pos] = 10
      · have cz : (N[pos].toNat : Int) = 10 := by rw [c1]; rfl
        generalize (N[pos].toNat : Int) = c at *
        subst cz
        go_wp2_with fail
        go_roundw
        case rel => exact ⟨pos + 1, fam + 1, pos + 1, done, [], by omega, by omega, rfl, by go_num, by go_num, by omega, by simp, by rw [HT.out, HD.out, c1, toks_lf], hi2, hj2, X2⟩
        case measure => rw [iterPos_at hi2, iterPos_at hit]; omega
      · by_cases c2 : N[pos] = 32
        · have cz : (N[pos].toNat : Int) = 32 := by rw [c2]; rfl
          generalize (N[pos].toNat : Int) = c at *
          subst cz
          have hTk : T[done.length]? = some (fam, cur) := by rw [HT.out, HD.out, c2, toks_sp, List.getElem?_append_right (Nat.le_refl _), Nat.sub_self]; rfl
          obtain ⟨hk, hTk⟩ := List.getElem?_eq_some_iff.1 hTk
          have HY := hy done.length hk _ hj2 X2
          rw [hTk] at HY
          simp only at HY
          have hex : (⟨cur.toArray⟩ : ByteArray) = N.extract fr pos := by rw [extract_list, HC.out]
          rw [hex] at HY
          have hkb : (done.length : Int) ≤ 1000 := by omega
          have HK := hid_ hk
          have HY := hid_ HY
          clear hy hTk hk hex
          go_wp2_with (refine HY.out.mono ?_; rintro e w2 ⟨X3, (⟨rfl, hj3⟩ | ⟨rfl, hq⟩)⟩)
          case roundEnd =>
            have hi3 := X3.blk hi2 (fun h => Nat.lt_irrefl _ (hS _ h))
            go_roundw
            case rel => exact ⟨pos + 1, fam, pos + 1, done ++ [(fam, cur)], [], by omega, by omega, by simp, rfl, by go_num, by omega, by simp, by rw [HT.out, HD.out, c2, toks_sp]; simp, hi3, by simpa using hj3, X2.trans X3⟩
            case measure => rw [iterPos_at hi3, iterPos_at hit]; omega
          refine bodyPost_ret (v := .tuple #[]) ?_ rfl ⟨rfl, X2.trans X3, .inr ⟨_, HK.out, hq⟩⟩
          simp [results, Try.results40, go_sem]
        · have cz : ((N[pos].toNat : Int) == 10) = false := u8_ne (n := 10) c1 (by decide)
          have cy : ((N[pos].toNat : Int) == 32) = false := u8_ne (n := 32) c2 (by decide)
          generalize (N[pos].toNat : Int) = c at *
          go_wp2_with fail
          go_roundw
          case rel => exact ⟨pos + 1, fam, fr, done, cur ++ [N[pos]], by omega, by omega, rfl, rfl, rfl, by omega, by rw [HC.out, take_snoc N fr pos hfp hlt], by rw [HT.out, HD.out, toks_ch _ _ _ _ c1 c2], hi2, hj2, X2⟩
          case measure => rw [iterPos_at hi2, iterPos_at hit]; omega
    · have hnx : ∀ ty, (Instr.next (.pointer (some ⟨w.heap.size, 0, none⟩)) true ty).run Try.prog wr = _ := fun ty => run_next_over wr w.heap.size N pos ty hit hlt
      obtain rfl : pos = N.size := by omega
      go_wp2_with fail
      go_end0
      refine ⟨rfl, X, .inl ?_⟩
      rw [hTd, List.drop_of_length_le (by simp), toksL, List.append_nil]
      exact hj
end Go.Proofs.Ytpgkjgceldleaaa
/- Walks: op.Count, op.Name. -/
namespace Go.Proofs.Ytpgkjgceldleaaa
open Go.RowKit

theorem count1_any (n fam : Int) (s : ByteArray) (b : Nat) (v : Value) (w : World) (hb : w.heap[b]? = some (.cells #[v] 3)) :
    Calls Try.prog 42 #[.int .i64 n, .int .i64 fam, .string s, .pointer (some ⟨b, 0, none⟩)] w fun e w' => e = .returned (.bool true) ∧ Chg (· = b) w w' ∧ w'.heap[b]? = some (.cells #[.int .i64 n] 3) := by
  have R := cells_of hb
  have Z := free_of hb
  have l := blk_lt hb
  go_enter Try.func42, Try.ntmps42
  go_wp2_with fail
  go_ret
  have h2 := blk_set hb 0 (.int .i64 n)
  simp only [List.setIfInBounds_toArray, List.set_cons_zero] at h2
  exact ⟨rfl, (Chg.refl (· = b) w).setCell (p := ⟨b, 0, none⟩) (.inl rfl) _, h2⟩
theorem count_any (w : World) : Calls Try.prog 16 #[] w fun e w' => e = .returned (.int .i64 162) ∧ Chg NoB w w' := by
  go_enter Try.func16, Try.ntmps16
  have hE := hid_ (each_any 42 #[.pointer (some ⟨w.heap.size, 0, none⟩)] (fun _ _ => by kernel_rfl) (· = w.heap.size) (fun k wr => wr.heap[w.heap.size]? = some (.cells #[.int .i64 k] 3)) (fun _ _ => False) (w.alloc (.cells #[.int .i64 0] 3))
    (fun i e => by subst e; simp) (fun k a b h X => X.blk h (by simp)) (fun k h w' hj X => by
      refine (count1_any _ _ _ _ _ w' hj).mono ?_
      rintro e w2 ⟨rfl, X2, h2⟩
      exact ⟨X2, .inl ⟨rfl, by simpa using h2⟩⟩) (by simpa using blk_new w _))
  go_wp2_with fail
  refine hE.out.mono ?_
  rintro e w1 ⟨rfl, X, (hj | ⟨-, -, hf⟩)⟩
  · rw [opT_length] at hj
    have R := cells_of hj
    go_wp2_with fail
    go_ret
    exact ⟨rfl, ((Chg.refl NoB w).alloc _).trans' X fun i hi e => by omega⟩
  · exact hf.elim

/-- The name of an operator. -/
noncomputable def opN (n : Int) : ByteArray := ⟨((opT.map Prod.snd).getD (n - 1).toNat []).toArray⟩
theorem name1_hit (n fam : Int) (s t : ByteArray) (p q : Nat) (w : World) (hp : w.heap[p]? = some (.cells #[.int .i64 n] 3)) (hq : w.heap[q]? = some (.cells #[.string t] 9)) :
    Calls Try.prog 41 #[.int .i64 n, .int .i64 fam, .string s, .pointer (some ⟨p, 0, none⟩), .pointer (some ⟨q, 0, none⟩)] w fun e w' => e = .returned (.bool false) ∧ Chg (· = q) w w' ∧ w'.heap[q]? = some (.cells #[.string s] 9) := by
  have R := cells_of hp
  have l := blk_lt hp
  have R2 := cells_of hq
  have Z := free_of hq
  have l2 := blk_lt hq
  have hne : q ≠ p := by rintro rfl; rw [hp] at hq; simp at hq
  go_enter Try.func41, Try.ntmps41
  go_wp2_with fail
  have h2 := blk_set hq 0 (.string s)
  simp only [List.setIfInBounds_toArray, List.set_cons_zero] at h2
  have hp2 := blk_set_other (p := ⟨q, 0, none⟩) hp (Ne.symm hne) (.string s)
  have X := (Chg.refl (· = q) w).setCell (p := ⟨q, 0, none⟩) (.inl rfl) (.string s)
  generalize w.setCell ⟨q, 0, none⟩ (.string s) = w1 at *
  clear R R2 Z l l2
  have R := cells_of hp2
  have l := blk_lt hp2
  go_wp2_with fail
  go_ret
  exact ⟨by simp, X, h2⟩
theorem name1_miss (k n fam : Int) (s : ByteArray) (p q : Nat) (w : World) (hp : w.heap[p]? = some (.cells #[.int .i64 n] 3)) (h : k < n) :
    Calls Try.prog 41 #[.int .i64 k, .int .i64 fam, .string s, .pointer (some ⟨p, 0, none⟩), .pointer (some ⟨q, 0, none⟩)] w fun e w' => e = .returned (.bool true) ∧ w = w' := by
  have R := cells_of hp
  have l := blk_lt hp
  have hne : (k == n) = false := by simp; omega
  go_enter Try.func41, Try.ntmps41
  go_wp2_with fail
  go_ret
  exact ⟨by simp, rfl⟩
theorem name_any (n : Int) (h1 : 1 ≤ n) (h2 : n ≤ 162) (w : World) : Calls Try.prog 15 #[.int .i64 n] w fun e w' => e = .returned (.string (opN n)) ∧ Chg NoB w w' := by
  have hl := opT_length
  have hE := hid_ (each_any 41 #[.pointer (some ⟨w.heap.size, 0, none⟩), .pointer (some ⟨w.heap.size + 1, 0, none⟩)] (fun _ _ => by kernel_rfl) (· = w.heap.size + 1)
    (fun k wr => (k : Int) < n ∧ wr.heap[w.heap.size]? = some (.cells #[.int .i64 n] 3) ∧ wr.heap[w.heap.size + 1]? = some (.cells #[.string ⟨#[]⟩] 9))
    (fun k wr => (k : Int) + 1 = n ∧ wr.heap[w.heap.size + 1]? = some (.cells #[.string (opN n)] 9)) ((w.alloc (.cells #[.int .i64 n] 3)).alloc (.cells #[.string ⟨#[]⟩] 9))
    (fun i e => by subst e; simp) (fun k a b h X => ⟨h.1, X.blk h.2.1 (by simp; omega), X.blk h.2.2 (by simp)⟩) (fun k h w' hj X => by
      obtain ⟨j1, j2, j3⟩ := hj
      by_cases e : (k : Int) + 1 = n
      · have := name1_hit n opT[k].1 ⟨opT[k].2.toArray⟩ _ _ _ w' j2 j3
        rw [← e] at this
        rw [e] at this ⊢
        refine this.mono ?_
        rintro e' w2 ⟨rfl, X2, hb⟩
        refine ⟨X2, .inr ⟨rfl, rfl, ?_⟩⟩
        rw [hb]
        have : (n - 1).toNat = k := by omega
        simp [opN, this, h]
      · refine (name1_miss _ n _ _ _ _ w' j2 (by omega)).mono ?_
        rintro e' w2 ⟨rfl, rfl⟩
        exact ⟨Chg.refl _ _, .inl ⟨rfl, by push_cast; omega, j2, j3⟩⟩) ⟨by omega, by simpa using blk_alloc (blk_new w _) _, by simpa using blk_new1 w _ _⟩)
  go_enter Try.func15, Try.ntmps15
  go_wp2_with fail
  refine hE.out.mono ?_
  rintro e w1 ⟨rfl, X, (⟨hj, -⟩ | ⟨k, -, -, hj⟩)⟩
  · omega
  · have R := cells_of hj
    go_wp2_with fail
    go_ret
    exact ⟨rfl, (((Chg.refl NoB w).alloc _).alloc _).trans' X fun i hi e => by omega⟩
end Go.Proofs.Ytpgkjgceldleaaa
