/- Ukn, Udf, Uty -/
import Derived.Test.YtpgkjgceldleaaaGreatZTabld
/- Walk: known of tympanlaw20. -/
namespace Go.Proofs.YtpgkjgceldleaaaGreat
open Go.RowKit

theorem op_def20 (w : World) : Calls Tryz.prog 8 #[.string ⟨#[100, 101, 102]⟩] w fun r w2 => r = .returned (.tuple #[.int .i64 62, .bool true]) ∧ Chg NoB w w2 := number_hit 61 3 [100, 101, 102] (by decide +kernel) w
theorem op_load20 (w : World) : Calls Tryz.prog 8 #[.string ⟨#[108, 111, 97, 100]⟩] w fun r w2 => r = .returned (.tuple #[.int .i64 63, .bool true]) ∧ Chg NoB w w2 := number_hit 62 3 [108, 111, 97, 100] (by decide +kernel) w
theorem name_may (s : ByteArray) (hs : s.size ≤ 100) : mayO (nameO s) = true := by
  simp [mayO, eqO, bareO, O.nil]
  omega
/-- The system's dictionary and the user's, with one pair. -/
noncomputable def uQ (s : ByteArray) (v : O) : List DQ := [(sysK 162, 162, true), ([(nameO s, v)], 200, false)]
theorem uQ_ok (s : ByteArray) (v : O) : OKQ (uQ s v) := by
  refine ⟨fun q hq => ?_, by simp [uQ]⟩
  simp only [uQ, List.mem_cons, List.not_mem_nil, or_false] at hq
  rcases hq with rfl | rfl
  · simp only [sysK_length]; decide
  · simp
theorem uQ_set (s : ByteArray) (v : O) : sysQ.set 1 (setK [] (nameO s) v, 200, false) = uQ s v := rfl
theorem uQ_look (s : ByteArray) (v : O) : lookN (uQ s v) (nameO s) 2 = (v, dcn 1, 0) := by
  show (match getK [(nameO s, v)] (nameO s) with | some v => (v, dcn 1, (0 : Int)) | none => lookN (uQ s v) (nameO s) 1) = _
  simp [getK, same_self]
noncomputable def knF : Nat → TX
  | 0 => (hQ sysQ, dsQ 2, [])
  | 2 => (hQ (uQ ka (iO 1)), dsQ 2, [iO 1])
  | _ => (hQ (uQ ka (iO 1)), dsQ 2, [])
set_option maxRecDepth 100000 in
set_option maxHeartbeats 8000000 in
theorem known20_any (w : World) : Calls Tryz.prog 7 #[] w fun e w' => e = .returned (.bool true) ∧ Chg NoB w w' := by
  obtain ⟨f, hf⟩ : ∃ f, f = knF := ⟨_, rfl⟩
  have C0 : Hid (∀ hp cp sp gp tp dv KB W, TQ w hp cp sp KB (f 0) W → Calls Tryz.prog 10 #[xVal hp cp sp gp dv tp, .string ⟨#[100, 101, 102]⟩, .slice (some ⟨W.heap.size, 0, none⟩) 2 2] (W.alloc (.cells #[.int .i64 5, .bool false, .int .i64 0, .int .i64 0, .int .i64 0, .string ⟨#[97]⟩, .int .i64 3, .bool false, .int .i64 1, .int .i64 0, .int .i64 0, .string ⟨#[]⟩] 38)) fun e w' => e = .returned (.int .i64 0) ∧ TQ w hp cp sp KB (f 1) w') := hid' (by
    rw [hf]; exact fun hp cp sp gp tp dv KB W S => TQ.doing [nameO ka, iO 1] 2 rfl (by simp [knF]) (fun o h => by
      simp only [List.mem_cons, List.not_mem_nil, or_false] at h
      rcases h with rfl | rfl
      · exact name_may _ (by decide)
      · exact may_iO _ (by omega) (by omega)) _ 62 0 true op_def20 (fun w' K' S' => by
        have := qt_def (l := []) sysQ sysQ_ok 1 [] 200 rfl (by decide) ka (by decide) (iO 1) (may_num _ _ (by omega) (by omega)) (isK_any _ (.inl rfl)) S'
        rwa [uQ_set] at this) _ rfl W S)
  have C1 : Hid (∀ hp cp sp gp tp dv KB W, TQ w hp cp sp KB (f 1) W → Calls Tryz.prog 10 #[xVal hp cp sp gp dv tp, .string ⟨#[108, 111, 97, 100]⟩, .slice (some ⟨W.heap.size, 0, none⟩) 1 1] (W.alloc (.cells #[.int .i64 5, .bool false, .int .i64 0, .int .i64 0, .int .i64 0, .string ⟨#[97]⟩] 38)) fun e w' => e = .returned (.int .i64 0) ∧ TQ w hp cp sp KB (f 2) w') := hid' (by
    rw [hf]; exact fun hp cp sp gp tp dv KB W S => TQ.doing [nameO ka] 1 rfl (by simp [knF]) (fun o h => by
      rw [List.mem_singleton.1 h]; exact name_may _ (by decide)) _ 63 0 true op_load20 (fun w' K' S' => qt_load (l := []) _ (uQ_ok ka (iO 1)) 2 (by decide) (by decide) ka (by decide) (uQ_look ka (iO 1)) (may_iO _ (by omega) (by omega)) S') _ rfl W S)
  have C2 : Hid (∀ hp cp sp gp tp dv KB W, TQ w hp cp sp KB (f 2) W → Calls Tryz.prog 13 #[xVal hp cp sp gp dv tp] W fun e w' => e = .returned (iO 1).val ∧ TQ w hp cp sp KB (f 3) w') := hid' (by
    rw [hf]; exact fun hp cp sp gp tp dv KB W S => TQ.top (iO 1) rfl W S)
  have C3 : Hid (∀ hp cp sp KB W, TQ w hp cp sp KB (f 3) W → Calls Tryz.prog 14 #[ptr sp] W fun e w' => e = .returned (.int .i64 0) ∧ TQ w hp cp sp KB (f 3) w') := hid' (by
    rw [hf]; exact fun hp cp sp KB W S => TQ.len 0 rfl W S)
  have HF0 := hid' (congrFun hf 0)
  clear hf
  go_enter Tryz.func7, Tryz.ntmps7
  go_wp2_with fail
  refine (TQ.fresh w (Chg.refl NoB w)).mono ?_
  rintro r w2 ⟨hp, cp, sp, gp, x, tp, rfl, S1⟩
  have S2 := S1.alloc (xBox hp cp sp gp (.pointer x) tp)
  generalize hg : w2.heap.size = g2 at *
  go_upto_region 2 with (fail)
  generalize hW : w2.alloc _ = w3 at *
  clear hW hg S1
  obtain ⟨KB, hKB⟩ : ∃ KB, KB = [(g2, xBox hp cp sp gp (.pointer x) tp)] := ⟨_, rfl⟩
  have nW : (g2, xBox hp cp sp gp (.pointer x) tp) ∈ KB := by rw [hKB]; exact m0
  rw [← hKB] at S2
  have S3 : TQ w hp cp sp KB (f 0) w3 := by rw [HF0.out]; exact S2
  have QW := TQ.cells (w0 := w) (hp := hp) (cp := cp) (sp := sp) (f := f) nW
  have lw := blk_lt (S3.box _ nW)
  simp only at lw
  have hS1 : ∃ n, TQ w hp cp sp KB (f n) w3 := ⟨_, S3⟩
  have HDR := hid' (fun n W (h : TQ w hp cp sp KB (f n) W) => h.drew)
  have HGR := hid' (fun n W o (h : TQ w hp cp sp KB (f n) W) => h.grow o)
  have HNU : Hid (∀ n v W, TQ w hp cp sp KB (f n) W → Calls Tryz.prog 12 #[.int .i64 v] W fun e w' => e = .returned (iO v).val ∧ TQ w hp cp sp KB (f n) w') := hid' (fun n v => TQ.num v)
  have HNA : Hid (∀ n s W, TQ w hp cp sp KB (f n) W → Calls Tryz.prog 11 #[.string s] W fun e w' => e = .returned (nameO s).val ∧ TQ w hp cp sp KB (f n) w') := hid' (fun n s => TQ.name s)
  have CDO : Hid (∀ n nm k row W, TQ w hp cp sp KB (f n) W → ((n = 0 ∧ nm = (⟨#[100, 101, 102]⟩ : ByteArray) ∧ k = 2 ∧ row = Obj.cells #[.int .i64 5, .bool false, .int .i64 0, .int .i64 0, .int .i64 0, .string ⟨#[97]⟩, .int .i64 3, .bool false, .int .i64 1, .int .i64 0, .int .i64 0, .string ⟨#[]⟩] 38) ∨ (n = 1 ∧ nm = ⟨#[108, 111, 97, 100]⟩ ∧ k = 1 ∧ row = Obj.cells #[.int .i64 5, .bool false, .int .i64 0, .int .i64 0, .int .i64 0, .string ⟨#[97]⟩] 38)) →
      Calls Tryz.prog 10 #[xVal hp cp sp gp (.pointer x) tp, .string nm, .slice (some ⟨W.heap.size, 0, none⟩) k k] (W.alloc row) fun e w' => e = .returned (.int .i64 0) ∧ TQ w hp cp sp KB (f (n + 1)) w') := hid' (fun n nm k row W S h => by
    rcases h with ⟨rfl, rfl, rfl, rfl⟩ | ⟨rfl, rfl, rfl, rfl⟩
    · exact C0.out _ _ _ _ _ _ _ _ S
    · exact C1.out _ _ _ _ _ _ _ _ S)
  clear nW hKB S2 HF0 C0 C1
  have q1 : eqO ⟨3, false, 1, 0, 0, ⟨#[]⟩⟩ ⟨3, false, 1, 0, 0, ⟨#[]⟩⟩ = true := eqO_self _
  go_region_held3 (fun W' => ∃ n, TQ w hp cp sp KB (f n) W') (first | (with_reducible assumption) | (with_reducible exact ⟨_, by with_reducible assumption⟩) | (with_reducible exact ⟨_, HDR.out _ _ (by with_reducible assumption)⟩) | (with_reducible exact ⟨_, HGR.out _ _ _ (by with_reducible assumption)⟩))
    (first
      | (go_at_call 12; refine (HNU.out _ _ _ (by first | with_reducible assumption | (with_reducible exact HDR.out _ _ (by with_reducible assumption)))).mono ?_; rintro r w7 ⟨rfl, S6⟩)
      | (go_at_call 11; refine (HNA.out _ _ _ (by first | with_reducible assumption | (with_reducible exact HDR.out _ _ (by with_reducible assumption)))).mono ?_; rintro r w7 ⟨rfl, S6⟩)
      | (go_at_call 10; refine (CDO.out _ _ _ _ _ S6 (by first | (with_reducible exact .inl ⟨rfl, rfl, rfl, rfl⟩) | (with_reducible exact .inr ⟨rfl, rfl, rfl, rfl⟩))).mono ?_; rintro r w7 ⟨rfl, S6⟩)
      | (go_at_call 13; refine (C2.out _ _ _ _ _ _ _ _ (by with_reducible assumption)).mono ?_; rintro r w7 ⟨rfl, S6⟩)
      | (go_at_call 14; refine (C3.out _ _ _ _ _ (by with_reducible assumption)).mono ?_; rintro r w7 ⟨rfl, S6⟩))
  go_wp2_with fail
  go_ret
  exact ⟨rfl, S6.chg⟩
end Go.Proofs.YtpgkjgceldleaaaGreat
/- TableDefines: what the heap holds, and the walk. -/
namespace Go.Proofs.YtpgkjgceldleaaaGreat
open Go.RowKit

theorem op_dict20 (w : World) : Calls Tryz.prog 8 #[.string ⟨#[100, 105, 99, 116]⟩] w fun r w2 => r = .returned (.tuple #[.int .i64 59, .bool true]) ∧ Chg NoB w w2 := number_hit 58 3 [100, 105, 99, 116] (by decide +kernel) w
theorem op_begin20 (w : World) : Calls Tryz.prog 8 #[.string ⟨#[98, 101, 103, 105, 110]⟩] w fun r w2 => r = .returned (.tuple #[.int .i64 60, .bool true]) ∧ Chg NoB w w2 := number_hit 59 3 [98, 101, 103, 105, 110] (by decide +kernel) w
theorem op_end20 (w : World) : Calls Tryz.prog 8 #[.string ⟨#[101, 110, 100]⟩] w fun r w2 => r = .returned (.tuple #[.int .i64 61, .bool true]) ∧ Chg NoB w w2 := number_hit 60 3 [101, 110, 100] (by decide +kernel) w
theorem op_store20 (w : World) : Calls Tryz.prog 8 #[.string ⟨#[115, 116, 111, 114, 101]⟩] w fun r w2 => r = .returned (.tuple #[.int .i64 64, .bool true]) ∧ Chg NoB w w2 := number_hit 63 3 [115, 116, 111, 114, 101] (by decide +kernel) w
theorem op_known20 (w : World) : Calls Tryz.prog 8 #[.string ⟨#[107, 110, 111, 119, 110]⟩] w fun r w2 => r = .returned (.tuple #[.int .i64 65, .bool true]) ∧ Chg NoB w w2 := number_hit 64 3 [107, 110, 111, 119, 110] (by decide +kernel) w
theorem op_where20 (w : World) : Calls Tryz.prog 8 #[.string ⟨#[119, 104, 101, 114, 101]⟩] w fun r w2 => r = .returned (.tuple #[.int .i64 67, .bool true]) ∧ Chg NoB w w2 := number_hit 66 3 [119, 104, 101, 114, 101] (by decide +kernel) w
theorem op_countdictstack20 (w : World) : Calls Tryz.prog 8 #[.string ⟨#[99, 111, 117, 110, 116, 100, 105, 99, 116, 115, 116, 97, 99, 107]⟩] w fun r w2 => r = .returned (.tuple #[.int .i64 69, .bool true]) ∧ Chg NoB w w2 := number_hit 68 3 [99, 111, 117, 110, 116, 100, 105, 99, 116, 115, 116, 97, 99, 107] (by decide +kernel) w
/-- The two lowest dictionaries, and a third. -/
noncomputable def vQ (s : ByteArray) (v : O) (ps : List (O × O)) : List DQ := uQ s v ++ [(ps, 3, false)]
theorem vQ_ok (s : ByteArray) (v : O) (ps : List (O × O)) (h : ps.length ≤ 3) : OKQ (vQ s v ps) := okQ_snoc (uQ_ok s v) ⟨h, by simp, by simp; omega⟩ (by simp [uQ])
theorem vQ_length (s : ByteArray) (v : O) (ps : List (O × O)) : (vQ s v ps).length = 3 := rfl
theorem uQ_used (s : ByteArray) (v : O) : used (hQ (uQ s v)) = 726 := by
  have h1 : hQ (uQ s v) = [dcellk true (sysK 162) 162] ++ [dcellk false [(nameO s, v)] 200] := by simp [hQ, uQ]
  rw [h1, used_cat', used_dc _ _ _ (by rw [sysK_length]; decide), used_dc _ _ _ (by simp)]
theorem uQ_new (s : ByteArray) (v : O) : dictH (hQ (uQ s v)) 3 = (hQ (vQ s v []), dcn 2, 0) := by
  have hl : (hQ (uQ s v)).length = 2 := by rw [hQ, List.length_map]; rfl
  have := dict_new (hQ (uQ s v)) 3 (by omega) (by decide) (by rw [uQ_used]; omega)
  rw [hl] at this
  unfold vQ
  rw [hQ_snoc]
  exact this
theorem vQ_def (s : ByteArray) (v u : O) : (vQ s v []).set 2 (setK [] (nameO s) u, 3, false) = vQ s v [(nameO s, u)] := rfl
theorem vQ_store (s : ByteArray) (v u : O) : (vQ s v []).set 1 (setK [(nameO s, v)] (nameO s) u, 200, false) = vQ s u [] := by
  simp [vQ, uQ, setK, same_self]
theorem vQ_low (s : ByteArray) (v : O) (ps : List (O × O)) : lookN (vQ s v ps) (nameO s) 2 = (v, dcn 1, 0) := by
  show (match getK [(nameO s, v)] (nameO s) with | some v => (v, dcn 1, (0 : Int)) | none => lookN (vQ s v ps) (nameO s) 1) = _
  simp [getK, same_self]
theorem vQ_top0 (s : ByteArray) (v : O) : lookN (vQ s v []) (nameO s) 3 = (v, dcn 1, 0) := vQ_low s v []
theorem vQ_top1 (s : ByteArray) (v u : O) : lookN (vQ s v [(nameO s, u)]) (nameO s) 3 = (u, dcn 2, 0) := by
  show (match getK [(nameO s, u)] (nameO s) with | some v => (v, dcn 2, (0 : Int)) | none => lookN (vQ s v [(nameO s, u)]) (nameO s) 2) = _
  simp [getK, same_self]
theorem vQ_get0 (s : ByteArray) (v : O) : getQ (vQ s v []) (nameO s) (dcn 2) = (O.nil, 9) := rfl
theorem vQ_get1 (s : ByteArray) (v u : O) : getQ (vQ s v [(nameO s, u)]) (nameO s) (dcn 2) = (u, 0) := by
  show (match getK [(nameO s, u)] (nameO s) with | some v => (v, (0 : Int)) | none => (O.nil, 9)) = _
  simp [getK, same_self]
theorem dcn_may (i : Nat) (h : i ≤ 100) : mayO (dcn i) = true := by
  simp [mayO, eqO, bareO, O.nil]
  omega
/-- Behind define: the dictionaries, where it is defined, whether in the new one, and what stays. -/
def DefQ (s : ByteArray) (v u : O) (Q : List DQ) (ad : Nat) (e : Int) (y : O) : Prop :=
  OKQ Q ∧ Q.length = 3 ∧ lookN Q (nameO s) 3 = (u, dcn ad, 0) ∧ ad ≤ 2 ∧ (∃ z, getQ Q (nameO s) (dcn 2) = (z, e)) ∧ lookN Q (nameO s) 2 = (y, dcn 1, 0)
theorem defQ_def (s : ByteArray) (v u : O) : DefQ s v u (vQ s v [(nameO s, u)]) 2 0 v := ⟨vQ_ok _ _ _ (by simp), rfl, vQ_top1 s v u, by decide, ⟨u, vQ_get1 s v u⟩, vQ_low _ _ _⟩
theorem defQ_store (s : ByteArray) (v u : O) : DefQ s v u (vQ s u []) 1 9 u := ⟨vQ_ok _ _ _ (by simp), rfl, vQ_top0 s u, by decide, ⟨O.nil, vQ_get0 s u⟩, vQ_low _ _ _⟩
noncomputable def deF (s : ByteArray) (v u : O) (Q : List DQ) (ad : Nat) (e : Int) (y : O) : Nat → TX
  | 0 => (hQ sysQ, dsQ 2, [])
  | 1 => (hQ (uQ s v), dsQ 2, [])
  | 2 => (hQ (vQ s v []), dsQ 2, [dcn 2])
  | 3 => (hQ (vQ s v []), dsQ 2, [])
  | 4 => (hQ (vQ s v []), dsQ 3, [])
  | 6 => (hQ Q, dsQ 3, [u])
  | 8 => (hQ Q, dsQ 3, [dcn ad, bO true])
  | 9 => (hQ Q, dsQ 3, [dcn ad])
  | 11 => (hQ Q, dsQ 3, [bO (decide (e = 0))])
  | 13 => (hQ Q, dsQ 2, [])
  | 14 => (hQ Q, dsQ 2, [y])
  | 15 => (hQ Q, dsQ 2, [])
  | 16 => (hQ Q, dsQ 2, [iO 2])
  | 17 => (hQ Q, dsQ 2, [])
  | _ => (hQ Q, dsQ 3, [])
theorem de_0 {w : World} {s : ByteArray} {v u : Int} {Q : List DQ} {ad : Nat} {e : Int} {y : O} (hs : s.size ≤ 100) (hv : -32768 ≤ v ∧ v < 32768) (hu : -32768 ≤ u ∧ u < 32768) (hp cp sp gp tp : Nat) (dv : Value) (KB : List (Nat × Obj)) (W : World) (S : TQ w hp cp sp KB (deF s (iO v) (iO u) Q ad e y 0) W) :
    Calls Tryz.prog 10 #[xVal hp cp sp gp dv tp, .string ⟨#[100, 101, 102]⟩, .slice (some ⟨W.heap.size, 0, none⟩) 2 2] (W.alloc (.cells #[.int .i64 5, .bool false, .int .i64 0, .int .i64 0, .int .i64 0, .string s, .int .i64 3, .bool false, .int .i64 v, .int .i64 0, .int .i64 0, .string ⟨#[]⟩] 38)) fun r w' => r = .returned (.int .i64 0) ∧ TQ w hp cp sp KB (deF s (iO v) (iO u) Q ad e y 1) w' :=
  TQ.doing [nameO s, iO v] 2 rfl (by simp [deF]) (fun o h => by
    simp only [List.mem_cons, List.not_mem_nil, or_false] at h
    rcases h with rfl | rfl
    · exact name_may _ hs
    · exact may_iO _ (by omega) (by omega)) _ 62 0 true op_def20 (fun w' K' S' => by
      have := qt_def (l := []) sysQ sysQ_ok 1 [] 200 rfl (by decide) s hs (iO v) (may_num _ _ (by omega) (by omega)) (isK_any _ (.inl rfl)) S'
      rwa [uQ_set] at this) _ rfl W S
theorem de_1 {w : World} {s : ByteArray} {v u : Int} {Q : List DQ} {ad : Nat} {e : Int} {y : O} (hs : s.size ≤ 100) (hv : -32768 ≤ v ∧ v < 32768) (hu : -32768 ≤ u ∧ u < 32768) (hp cp sp gp tp : Nat) (dv : Value) (KB : List (Nat × Obj)) (W : World) (S : TQ w hp cp sp KB (deF s (iO v) (iO u) Q ad e y 1) W) :
    Calls Tryz.prog 10 #[xVal hp cp sp gp dv tp, .string ⟨#[100, 105, 99, 116]⟩, .slice (some ⟨W.heap.size, 0, none⟩) 1 1] (W.alloc (.cells #[.int .i64 3, .bool false, .int .i64 3, .int .i64 0, .int .i64 0, .string ⟨#[]⟩] 38)) fun r w' => r = .returned (.int .i64 0) ∧ TQ w hp cp sp KB (deF s (iO v) (iO u) Q ad e y 2) w' :=
  TQ.doing [iO 3] 1 rfl (by simp [deF]) (fun o h => by
    simp only [List.mem_cons, List.not_mem_nil, or_false] at h
    subst h; exact may_iO _ (by omega) (by omega)) _ 59 0 true op_dict20 (fun w' K' S' => qt_dict (l := []) 3 (uQ_new s (iO v)) (dcn_may 2 (by decide)) S') _ rfl W S
theorem de_3 {w : World} {s : ByteArray} {v u : Int} {Q : List DQ} {ad : Nat} {e : Int} {y : O} (hs : s.size ≤ 100) (hv : -32768 ≤ v ∧ v < 32768) (hu : -32768 ≤ u ∧ u < 32768) (hp cp sp gp tp : Nat) (dv : Value) (KB : List (Nat × Obj)) (W : World) (S : TQ w hp cp sp KB (deF s (iO v) (iO u) Q ad e y 3) W) :
    Calls Tryz.prog 10 #[xVal hp cp sp gp dv tp, .string ⟨#[98, 101, 103, 105, 110]⟩, .slice (some ⟨W.heap.size, 0, none⟩) 1 1] (W.alloc (.cells #[.int .i64 10, .bool false, .int .i64 2, .int .i64 0, .int .i64 0, .string ⟨#[]⟩] 38)) fun r w' => r = .returned (.int .i64 0) ∧ TQ w hp cp sp KB (deF s (iO v) (iO u) Q ad e y 4) w' :=
  TQ.doing [dcn 2] 1 rfl (by simp [deF]) (fun o h => by
    simp only [List.mem_cons, List.not_mem_nil, or_false] at h
    subst h; exact dcn_may 2 (by decide)) _ 60 0 true op_begin20 (fun w' K' S' => qt_begin (l := []) (vQ s (iO v) []) (vQ_ok _ _ _ (by simp)) 2 (by decide) (by decide) (by rw [vQ_length]; decide) S') _ rfl W S
theorem de_4d {w : World} {s : ByteArray} {v u : Int} (hs : s.size ≤ 100) (hv : -32768 ≤ v ∧ v < 32768) (hu : -32768 ≤ u ∧ u < 32768) (hp cp sp gp tp : Nat) (dv : Value) (KB : List (Nat × Obj)) (W : World) (S : TQ w hp cp sp KB (deF s (iO v) (iO u) (vQ s (iO v) [(nameO s, iO u)]) 2 0 (iO v) 4) W) :
    Calls Tryz.prog 10 #[xVal hp cp sp gp dv tp, .string ⟨#[100, 101, 102]⟩, .slice (some ⟨W.heap.size, 0, none⟩) 2 2] (W.alloc (.cells #[.int .i64 5, .bool false, .int .i64 0, .int .i64 0, .int .i64 0, .string s, .int .i64 3, .bool false, .int .i64 u, .int .i64 0, .int .i64 0, .string ⟨#[]⟩] 38)) fun r w' => r = .returned (.int .i64 0) ∧ TQ w hp cp sp KB (deF s (iO v) (iO u) (vQ s (iO v) [(nameO s, iO u)]) 2 0 (iO v) 5) w' :=
  TQ.doing [nameO s, iO u] 2 rfl (by simp [deF]) (fun o h => by
    simp only [List.mem_cons, List.not_mem_nil, or_false] at h
    rcases h with rfl | rfl
    · exact name_may _ hs
    · exact may_iO _ (by omega) (by omega)) _ 62 0 true op_def20 (fun w' K' S' => by
      have := qt_def (l := []) (vQ s (iO v) []) (vQ_ok _ _ _ (by simp)) 2 [] 3 rfl (by decide) s hs (iO u) (may_num _ _ (by omega) (by omega)) (isK_any _ (.inl rfl)) S'
      rwa [vQ_def] at this) _ rfl W S
theorem de_4s {w : World} {s : ByteArray} {v u : Int} (hs : s.size ≤ 100) (hv : -32768 ≤ v ∧ v < 32768) (hu : -32768 ≤ u ∧ u < 32768) (hp cp sp gp tp : Nat) (dv : Value) (KB : List (Nat × Obj)) (W : World) (S : TQ w hp cp sp KB (deF s (iO v) (iO u) (vQ s (iO u) []) 1 9 (iO u) 4) W) :
    Calls Tryz.prog 10 #[xVal hp cp sp gp dv tp, .string ⟨#[115, 116, 111, 114, 101]⟩, .slice (some ⟨W.heap.size, 0, none⟩) 2 2] (W.alloc (.cells #[.int .i64 5, .bool false, .int .i64 0, .int .i64 0, .int .i64 0, .string s, .int .i64 3, .bool false, .int .i64 u, .int .i64 0, .int .i64 0, .string ⟨#[]⟩] 38)) fun r w' => r = .returned (.int .i64 0) ∧ TQ w hp cp sp KB (deF s (iO v) (iO u) (vQ s (iO u) []) 1 9 (iO u) 5) w' :=
  TQ.doing [nameO s, iO u] 2 rfl (by simp [deF]) (fun o h => by
    simp only [List.mem_cons, List.not_mem_nil, or_false] at h
    rcases h with rfl | rfl
    · exact name_may _ hs
    · exact may_iO _ (by omega) (by omega)) _ 64 0 true op_store20 (fun w' K' S' => by
      have := qt_store (l := []) (vQ s (iO v) []) (vQ_ok _ _ _ (by simp)) 2 (by rw [vQ_length]; decide) 1 (by decide) [(nameO s, iO v)] 200 rfl (by simp) s hs (iO u) (iO v) (vQ_top0 s (iO v)) (may_num _ _ (by omega) (by omega)) (isK_any _ (.inl rfl)) S'
      rwa [vQ_store] at this) _ rfl W S
theorem de_5 {w : World} {s : ByteArray} {v u : Int} {Q : List DQ} {ad : Nat} {e : Int} {y : O} (hs : s.size ≤ 100) (hv : -32768 ≤ v ∧ v < 32768) (hu : -32768 ≤ u ∧ u < 32768) (hD : DefQ s (iO v) (iO u) Q ad e y) (hp cp sp gp tp : Nat) (dv : Value) (KB : List (Nat × Obj)) (W : World) (S : TQ w hp cp sp KB (deF s (iO v) (iO u) Q ad e y 5) W) :
    Calls Tryz.prog 10 #[xVal hp cp sp gp dv tp, .string ⟨#[108, 111, 97, 100]⟩, .slice (some ⟨W.heap.size, 0, none⟩) 1 1] (W.alloc (.cells #[.int .i64 5, .bool false, .int .i64 0, .int .i64 0, .int .i64 0, .string s] 38)) fun r w' => r = .returned (.int .i64 0) ∧ TQ w hp cp sp KB (deF s (iO v) (iO u) Q ad e y 6) w' :=
  TQ.doing [nameO s] 1 rfl (by simp [deF]) (fun o h => by
    simp only [List.mem_cons, List.not_mem_nil, or_false] at h
    subst h; exact name_may _ hs) _ 63 0 true op_load20 (fun w' K' S' => qt_load (l := []) Q hD.1 3 (by decide) (by rw [hD.2.1]; decide) s hs hD.2.2.1 (may_iO _ (by omega) (by omega)) S') _ rfl W S
theorem de_7 {w : World} {s : ByteArray} {v u : Int} {Q : List DQ} {ad : Nat} {e : Int} {y : O} (hs : s.size ≤ 100) (hv : -32768 ≤ v ∧ v < 32768) (hu : -32768 ≤ u ∧ u < 32768) (hD : DefQ s (iO v) (iO u) Q ad e y) (hp cp sp gp tp : Nat) (dv : Value) (KB : List (Nat × Obj)) (W : World) (S : TQ w hp cp sp KB (deF s (iO v) (iO u) Q ad e y 7) W) :
    Calls Tryz.prog 10 #[xVal hp cp sp gp dv tp, .string ⟨#[119, 104, 101, 114, 101]⟩, .slice (some ⟨W.heap.size, 0, none⟩) 1 1] (W.alloc (.cells #[.int .i64 5, .bool false, .int .i64 0, .int .i64 0, .int .i64 0, .string s] 38)) fun r w' => r = .returned (.int .i64 0) ∧ TQ w hp cp sp KB (deF s (iO v) (iO u) Q ad e y 8) w' :=
  TQ.doing [nameO s] 1 rfl (by simp [deF]) (fun o h => by
    simp only [List.mem_cons, List.not_mem_nil, or_false] at h
    subst h; exact name_may _ hs) _ 67 0 true op_where20 (fun w' K' S' => qt_where (l := []) Q hD.1 3 (by decide) (by rw [hD.2.1]; decide) s hs hD.2.2.1 (dcn_may ad (by have := hD.2.2.2.1; omega)) (by decide) S') _ rfl W S
theorem de_10 {w : World} {s : ByteArray} {v u : Int} {Q : List DQ} {ad : Nat} {e : Int} {y : O} (hs : s.size ≤ 100) (hv : -32768 ≤ v ∧ v < 32768) (hu : -32768 ≤ u ∧ u < 32768) (hD : DefQ s (iO v) (iO u) Q ad e y) (hp cp sp gp tp : Nat) (dv : Value) (KB : List (Nat × Obj)) (W : World) (S : TQ w hp cp sp KB (deF s (iO v) (iO u) Q ad e y 10) W) :
    Calls Tryz.prog 10 #[xVal hp cp sp gp dv tp, .string ⟨#[107, 110, 111, 119, 110]⟩, .slice (some ⟨W.heap.size, 0, none⟩) 2 2] (W.alloc (.cells #[.int .i64 10, .bool false, .int .i64 2, .int .i64 0, .int .i64 0, .string ⟨#[]⟩, .int .i64 5, .bool false, .int .i64 0, .int .i64 0, .int .i64 0, .string s] 38)) fun r w' => r = .returned (.int .i64 0) ∧ TQ w hp cp sp KB (deF s (iO v) (iO u) Q ad e y 11) w' :=
  TQ.doing [dcn 2, nameO s] 2 rfl (by simp [deF]) (fun o h => by
    simp only [List.mem_cons, List.not_mem_nil, or_false] at h
    rcases h with rfl | rfl
    · exact dcn_may 2 (by decide)
    · exact name_may _ hs) _ 65 0 true op_known20 (fun w' K' S' => by
      obtain ⟨z, hz⟩ := hD.2.2.2.2.1
      exact qt_known (l := []) Q hD.1 _ 2 (by rw [hD.2.1]; decide) s hs hz S') _ rfl W S
theorem de_13 {w : World} {s : ByteArray} {v u : Int} {Q : List DQ} {ad : Nat} {e : Int} {y : O} (hs : s.size ≤ 100) (hv : -32768 ≤ v ∧ v < 32768) (hu : -32768 ≤ u ∧ u < 32768) (hD : DefQ s (iO v) (iO u) Q ad e y) (hy : mayO y = true) (hp cp sp gp tp : Nat) (dv : Value) (KB : List (Nat × Obj)) (W : World) (S : TQ w hp cp sp KB (deF s (iO v) (iO u) Q ad e y 13) W) :
    Calls Tryz.prog 10 #[xVal hp cp sp gp dv tp, .string ⟨#[108, 111, 97, 100]⟩, .slice (some ⟨W.heap.size, 0, none⟩) 1 1] (W.alloc (.cells #[.int .i64 5, .bool false, .int .i64 0, .int .i64 0, .int .i64 0, .string s] 38)) fun r w' => r = .returned (.int .i64 0) ∧ TQ w hp cp sp KB (deF s (iO v) (iO u) Q ad e y 14) w' :=
  TQ.doing [nameO s] 1 rfl (by simp [deF]) (fun o h => by
    simp only [List.mem_cons, List.not_mem_nil, or_false] at h
    subst h; exact name_may _ hs) _ 63 0 true op_load20 (fun w' K' S' => qt_load (l := []) Q hD.1 2 (by decide) (by rw [hD.2.1]; decide) s hs hD.2.2.2.2.2 hy S') _ rfl W S
theorem de_12 {w : World} {s : ByteArray} {v u : O} {Q : List DQ} {ad : Nat} {e : Int} {y : O} (hp cp sp gp tp : Nat) (dv : Value) (KB : List (Nat × Obj)) (W : World) (S : TQ w hp cp sp KB (deF s v u Q ad e y 12) W) :
    Calls Tryz.prog 10 #[xVal hp cp sp gp dv tp, .string ⟨#[101, 110, 100]⟩, .slice none 0 0] W fun r w' => r = .returned (.int .i64 0) ∧ TQ w hp cp sp KB (deF s v u Q ad e y 13) w' :=
  TQ.doing0 _ 61 0 true (by simp [deF]) op_end20 (fun w' K' S' => qt_end (l := []) 2 (by decide) (by decide) S') W S
theorem de_15 {w : World} {s : ByteArray} {v u : O} {Q : List DQ} {ad : Nat} {e : Int} {y : O} (hp cp sp gp tp : Nat) (dv : Value) (KB : List (Nat × Obj)) (W : World) (S : TQ w hp cp sp KB (deF s v u Q ad e y 15) W) :
    Calls Tryz.prog 10 #[xVal hp cp sp gp dv tp, .string ⟨#[99, 111, 117, 110, 116, 100, 105, 99, 116, 115, 116, 97, 99, 107]⟩, .slice none 0 0] W fun r w' => r = .returned (.int .i64 0) ∧ TQ w hp cp sp KB (deF s v u Q ad e y 16) w' :=
  TQ.doing0 _ 69 0 true (by simp [deF]) op_countdictstack20 (fun w' K' S' => td_count (l := []) S' (by show (dsQ 2).length ≤ 1000; rw [dsQ_length]; decide) (by simp [deF])) W S
end Go.Proofs.YtpgkjgceldleaaaGreat
/- States of layer 20 for drawn regions, whatever the state; two boxes more. -/
namespace Go.Proofs.YtpgkjgceldleaaaGreat
open Go.RowKit

theorem TQ.alloc2 {w0 W : World} {hp cp sp : Nat} {KB : List (Nat × Obj)} {x : TX} (S : TQ w0 hp cp sp KB x W) (o o' : Obj) : TQ w0 hp cp sp ((W.heap.size + 1, o') :: (W.heap.size, o) :: KB) x ((W.alloc o).alloc o') := by
  have h := (S.alloc o).alloc o'
  rwa [World.size_alloc] at h
/-- Boxes more, whatever the state. -/
def TQY (w0 : World) (hp cp sp : Nat) (KB : List (Nat × Obj)) (W : World) : Prop := ∃ x E, TQ w0 hp cp sp (E ++ KB) x W
section
variable {w0 W : World} {hp cp sp : Nat} {KB : List (Nat × Obj)} {x : TX}
theorem TQY.of (S : TQ w0 hp cp sp KB x W) : TQY w0 hp cp sp KB W := ⟨x, [], S⟩
theorem TQY.more {q : Nat × Obj} (S : TQ w0 hp cp sp (q :: KB) x W) : TQY w0 hp cp sp KB W := ⟨x, [q], S⟩
theorem TQY.more2 {q q' : Nat × Obj} (S : TQ w0 hp cp sp (q :: q' :: KB) x W) : TQY w0 hp cp sp KB W := ⟨x, [q, q'], S⟩
theorem TQY.drew (h : TQY w0 hp cp sp KB W) : TQY w0 hp cp sp KB W.drew := by obtain ⟨x, E, S⟩ := h; exact ⟨x, E, S.drew⟩
theorem TQY.alloc (h : TQY w0 hp cp sp KB W) (o : Obj) : TQY w0 hp cp sp KB (W.alloc o) := by obtain ⟨x, E, S⟩ := h; exact ⟨x, _ :: E, S.alloc o⟩
theorem TQY.cells {g : Nat} {cs : Array Value} {T : TypeId} {fz : Nat × Nat} (hm : (g, Obj.cells cs T fz) ∈ KB) : ∀ W, TQY w0 hp cp sp KB W → ∀ i, W.cell? ⟨g, i, none⟩ = cs[i]? := by
  rintro W ⟨x, E, S⟩ i; exact cells_of (S.box _ (List.mem_append_right _ hm)) i
theorem TQ.putO {b : Nat} {c0 c1 c2 c3 c4 c5 : Value} {T : TypeId} (S : TQ w0 hp cp sp ((b, .cells #[c0, c1, c2, c3, c4, c5] T) :: KB) x W) (kk : Int) (kx : Bool) (kn kp kl : Int) (ks : ByteArray) :
    TQ w0 hp cp sp ((b, .cells #[.int .i64 kk, .bool kx, .int .i64 kn, .int .i64 kp, .int .i64 kl, .string ks] T) :: KB) x ((((((W.setCell ⟨b, 0, none⟩ (.int .i64 kk)).setCell ⟨b, 1, none⟩ (.bool kx)).setCell ⟨b, 2, none⟩ (.int .i64 kn)).setCell ⟨b, 3, none⟩ (.int .i64 kp)).setCell ⟨b, 4, none⟩ (.int .i64 kl)).setCell ⟨b, 5, none⟩ (.string ks)) := TabAt.putO S kk kx kn kp kl ks
theorem TQ.two_old {p q : Nat} {c0 c1 c2 c3 c4 c5 b0 b1 b2 b3 b4 b5 : Value} {T T' : TypeId} (S : TQ w0 hp cp sp ((q, .cells #[c0, c1, c2, c3, c4, c5] T) :: (p, .cells #[b0, b1, b2, b3, b4, b5] T') :: KB) x W)
    (vk : Int) (vx : Bool) (vn vp vl : Int) (vs : ByteArray) (dk : Int) (dx : Bool) (dn dp dl : Int) (dS : ByteArray) : TQ w0 hp cp sp
      ((p, .cells #[.int .i64 vk, .bool vx, .int .i64 vn, .int .i64 vp, .int .i64 vl, .string vs] T') :: (q, .cells #[.int .i64 dk, .bool dx, .int .i64 dn, .int .i64 dp, .int .i64 dl, .string dS] T) :: KB) x
      ((((((((((((W.setCell ⟨p, 0, none⟩ (.int .i64 vk)).setCell ⟨p, 1, none⟩ (.bool vx)).setCell ⟨p, 2, none⟩ (.int .i64 vn)).setCell ⟨p, 3, none⟩ (.int .i64 vp)).setCell ⟨p, 4, none⟩ (.int .i64 vl)).setCell ⟨p, 5, none⟩ (.string vs)).setCell ⟨q, 0, none⟩ (.int .i64 dk)).setCell ⟨q, 1, none⟩ (.bool dx)).setCell ⟨q, 2, none⟩ (.int .i64 dn)).setCell ⟨q, 3, none⟩ (.int .i64 dp)).setCell ⟨q, 4, none⟩ (.int .i64 dl)).setCell ⟨q, 5, none⟩ (.string dS)) :=
  TabAt.two_old S vk vx vn vp vl vs dk dx dn dp dl dS
theorem TQ.two_new {p q : Nat} {c0 c1 c2 c3 c4 c5 b0 b1 b2 b3 b4 b5 : Value} {T T' : TypeId} (S : TQ w0 hp cp sp ((q, .cells #[c0, c1, c2, c3, c4, c5] T) :: (p, .cells #[b0, b1, b2, b3, b4, b5] T') :: KB) x W)
    (vk : Int) (vx : Bool) (vn vp vl : Int) (vs : ByteArray) (dk : Int) (dx : Bool) (dn dp dl : Int) (dS : ByteArray) : TQ w0 hp cp sp
      ((q, .cells #[.int .i64 vk, .bool vx, .int .i64 vn, .int .i64 vp, .int .i64 vl, .string vs] T) :: (p, .cells #[.int .i64 dk, .bool dx, .int .i64 dn, .int .i64 dp, .int .i64 dl, .string dS] T') :: KB) x
      ((((((((((((W.setCell ⟨q, 0, none⟩ (.int .i64 vk)).setCell ⟨q, 1, none⟩ (.bool vx)).setCell ⟨q, 2, none⟩ (.int .i64 vn)).setCell ⟨q, 3, none⟩ (.int .i64 vp)).setCell ⟨q, 4, none⟩ (.int .i64 vl)).setCell ⟨q, 5, none⟩ (.string vs)).setCell ⟨p, 0, none⟩ (.int .i64 dk)).setCell ⟨p, 1, none⟩ (.bool dx)).setCell ⟨p, 2, none⟩ (.int .i64 dn)).setCell ⟨p, 3, none⟩ (.int .i64 dp)).setCell ⟨p, 4, none⟩ (.int .i64 dl)).setCell ⟨p, 5, none⟩ (.string dS)) :=
  TabAt.two_new S vk vx vn vp vl vs dk dx dn dp dl dS
/-- Two boxes more. -/
def LCQ (w0 : World) (hp cp sp : Nat) (KB : List (Nat × Obj)) (x : TX) (p q : O) (s1 s2 : Value) (W : World) : Prop :=
  ∃ a b, s1 = ptr a ∧ s2 = ptr b ∧ TQ w0 hp cp sp ((a, .cells p.cells.toArray 38) :: (b, .cells q.cells.toArray 38) :: KB) x W
theorem LCQ.mk {a b : Nat} {pk : Int} {px : Bool} {pn pp pl : Int} {ps : ByteArray} {uk : Int} {ux : Bool} {un up ul : Int} {us : ByteArray} (S : TQ w0 hp cp sp ((a, Obj.cells #[.int .i64 pk, .bool px, .int .i64 pn, .int .i64 pp, .int .i64 pl, .string ps] 38) :: (b, Obj.cells #[.int .i64 uk, .bool ux, .int .i64 un, .int .i64 up, .int .i64 ul, .string us] 38) :: KB) x W) : LCQ w0 hp cp sp KB x ⟨pk, px, pn, pp, pl, ps⟩ ⟨uk, ux, un, up, ul, us⟩ (ptr a) (ptr b) W := ⟨a, b, rfl, rfl, S⟩
theorem LCQ.mk' {a b : Nat} {pk : Int} {px : Bool} {pn pp pl : Int} {ps : ByteArray} {uk : Int} {ux : Bool} {un up ul : Int} {us : ByteArray} (S : TQ w0 hp cp sp ((b, Obj.cells #[.int .i64 uk, .bool ux, .int .i64 un, .int .i64 up, .int .i64 ul, .string us] 38) :: (a, Obj.cells #[.int .i64 pk, .bool px, .int .i64 pn, .int .i64 pp, .int .i64 pl, .string ps] 38) :: KB) x W) : LCQ w0 hp cp sp KB x ⟨pk, px, pn, pp, pl, ps⟩ ⟨uk, ux, un, up, ul, us⟩ (ptr a) (ptr b) W := ⟨a, b, rfl, rfl, S.perm (List.Perm.swap _ _ _)⟩
end

end Go.Proofs.YtpgkjgceldleaaaGreat
