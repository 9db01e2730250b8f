/- Ukn, Udf, Uty, Utw -/
import Derived.Test.YtpgkjgceldleaaaGreatZTabld
/- Walk: known of tympanlaw20. -/
namespace Go.Proofs.YtpgkjgceldleaaaGreat
open Go.RowKit

theorem op_def20 (w : World) : Calls Tryz.prog 8 #[.string ⟨#[100, 101, 102]⟩] w fun r w2 => r = .returned (.tuple #[.int .i64 62, .bool true]) ∧ Chg NoB w w2 := number_hit 61 3 [100, 101, 102] (by decide +kernel) w
theorem op_load20 (w : World) : Calls Tryz.prog 8 #[.string ⟨#[108, 111, 97, 100]⟩] w fun r w2 => r = .returned (.tuple #[.int .i64 63, .bool true]) ∧ Chg NoB w w2 := number_hit 62 3 [108, 111, 97, 100] (by decide +kernel) w
theorem name_may (s : ByteArray) (hs : s.size ≤ 100) : mayO (nameO s) = true := by
  simp [mayO, eqO, bareO, O.nil]
  omega
/-- The system's dictionary and the user's, with one pair. -/
noncomputable def uQ (s : ByteArray) (v : O) : List DQ := [(sysK 162, 162, true), ([(nameO s, v)], 200, false)]
theorem uQ_ok (s : ByteArray) (v : O) : OKQ (uQ s v) := by
  refine ⟨fun q hq => ?_, by simp [uQ]⟩
  simp only [uQ, List.mem_cons, List.not_mem_nil, or_false] at hq
  rcases hq with rfl | rfl
  · simp only [sysK_length]; decide
  · simp
theorem uQ_set (s : ByteArray) (v : O) : sysQ.set 1 (setK [] (nameO s) v, 200, false) = uQ s v := rfl
theorem uQ_look (s : ByteArray) (v : O) : lookN (uQ s v) (nameO s) 2 = (v, dcn 1, 0) := by
  show (match getK [(nameO s, v)] (nameO s) with | some v => (v, dcn 1, (0 : Int)) | none => lookN (uQ s v) (nameO s) 1) = _
  simp [getK, same_self]
noncomputable def knF : Nat → TX
  | 0 => (hQ sysQ, dsQ 2, [])
  | 2 => (hQ (uQ ka (iO 1)), dsQ 2, [iO 1])
  | _ => (hQ (uQ ka (iO 1)), dsQ 2, [])
set_option maxRecDepth 100000 in
set_option maxHeartbeats 8000000 in
theorem known20_any (w : World) : Calls Tryz.prog 7 #[] w fun e w' => e = .returned (.bool true) ∧ Chg NoB w w' := by
  obtain ⟨f, hf⟩ : ∃ f, f = knF := ⟨_, rfl⟩
  have C0 : Hid (∀ hp cp sp gp tp dv KB W, TQ w hp cp sp KB (f 0) W → Calls Tryz.prog 10 #[xVal hp cp sp gp dv tp, .string ⟨#[100, 101, 102]⟩, .slice (some ⟨W.heap.size, 0, none⟩) 2 2] (W.alloc (.cells #[.int .i64 5, .bool false, .int .i64 0, .int .i64 0, .int .i64 0, .string ⟨#[97]⟩, .int .i64 3, .bool false, .int .i64 1, .int .i64 0, .int .i64 0, .string ⟨#[]⟩] 38)) fun e w' => e = .returned (.int .i64 0) ∧ TQ w hp cp sp KB (f 1) w') := hid' (by
    rw [hf]; exact fun hp cp sp gp tp dv KB W S => TQ.doing [nameO ka, iO 1] 2 rfl (by simp [knF]) (fun o h => by
      simp only [List.mem_cons, List.not_mem_nil, or_false] at h
      rcases h with rfl | rfl
      · exact name_may _ (by decide)
      · exact may_iO _ (by omega) (by omega)) _ 62 0 true op_def20 (fun w' K' S' => by
        have := qt_def (l := []) sysQ sysQ_ok 1 [] 200 rfl (by decide) ka (by decide) (iO 1) (may_num _ _ (by omega) (by omega)) (isK_any _ (.inl rfl)) S'
        rwa [uQ_set] at this) _ rfl W S)
  have C1 : Hid (∀ hp cp sp gp tp dv KB W, TQ w hp cp sp KB (f 1) W → Calls Tryz.prog 10 #[xVal hp cp sp gp dv tp, .string ⟨#[108, 111, 97, 100]⟩, .slice (some ⟨W.heap.size, 0, none⟩) 1 1] (W.alloc (.cells #[.int .i64 5, .bool false, .int .i64 0, .int .i64 0, .int .i64 0, .string ⟨#[97]⟩] 38)) fun e w' => e = .returned (.int .i64 0) ∧ TQ w hp cp sp KB (f 2) w') := hid' (by
    rw [hf]; exact fun hp cp sp gp tp dv KB W S => TQ.doing [nameO ka] 1 rfl (by simp [knF]) (fun o h => by
      rw [List.mem_singleton.1 h]; exact name_may _ (by decide)) _ 63 0 true op_load20 (fun w' K' S' => qt_load (l := []) _ (uQ_ok ka (iO 1)) 2 (by decide) (by decide) ka (by decide) (uQ_look ka (iO 1)) (may_iO _ (by omega) (by omega)) S') _ rfl W S)
  have C2 : Hid (∀ hp cp sp gp tp dv KB W, TQ w hp cp sp KB (f 2) W → Calls Tryz.prog 13 #[xVal hp cp sp gp dv tp] W fun e w' => e = .returned (iO 1).val ∧ TQ w hp cp sp KB (f 3) w') := hid' (by
    rw [hf]; exact fun hp cp sp gp tp dv KB W S => TQ.top (iO 1) rfl W S)
  have C3 : Hid (∀ hp cp sp KB W, TQ w hp cp sp KB (f 3) W → Calls Tryz.prog 14 #[ptr sp] W fun e w' => e = .returned (.int .i64 0) ∧ TQ w hp cp sp KB (f 3) w') := hid' (by
    rw [hf]; exact fun hp cp sp KB W S => TQ.len 0 rfl W S)
  have HF0 := hid' (congrFun hf 0)
  clear hf
  go_enter Tryz.func7, Tryz.ntmps7
  go_wp2_with fail
  refine (TQ.fresh w (Chg.refl NoB w)).mono ?_
  rintro r w2 ⟨hp, cp, sp, gp, x, tp, rfl, S1⟩
  have S2 := S1.alloc (xBox hp cp sp gp (.pointer x) tp)
  generalize hg : w2.heap.size = g2 at *
  go_upto_region 2 with (fail)
  generalize hW : w2.alloc _ = w3 at *
  clear hW hg S1
  obtain ⟨KB, hKB⟩ : ∃ KB, KB = [(g2, xBox hp cp sp gp (.pointer x) tp)] := ⟨_, rfl⟩
  have nW : (g2, xBox hp cp sp gp (.pointer x) tp) ∈ KB := by rw [hKB]; exact m0
  rw [← hKB] at S2
  have S3 : TQ w hp cp sp KB (f 0) w3 := by rw [HF0.out]; exact S2
  have QW := TQ.cells (w0 := w) (hp := hp) (cp := cp) (sp := sp) (f := f) nW
  have lw := blk_lt (S3.box _ nW)
  simp only at lw
  have hS1 : ∃ n, TQ w hp cp sp KB (f n) w3 := ⟨_, S3⟩
  have HDR := hid' (fun n W (h : TQ w hp cp sp KB (f n) W) => h.drew)
  have HGR := hid' (fun n W o (h : TQ w hp cp sp KB (f n) W) => h.grow o)
  have HNU : Hid (∀ n v W, TQ w hp cp sp KB (f n) W → Calls Tryz.prog 12 #[.int .i64 v] W fun e w' => e = .returned (iO v).val ∧ TQ w hp cp sp KB (f n) w') := hid' (fun n v => TQ.num v)
  have HNA : Hid (∀ n s W, TQ w hp cp sp KB (f n) W → Calls Tryz.prog 11 #[.string s] W fun e w' => e = .returned (nameO s).val ∧ TQ w hp cp sp KB (f n) w') := hid' (fun n s => TQ.name s)
  have CDO : Hid (∀ n nm k row W, TQ w hp cp sp KB (f n) W → ((n = 0 ∧ nm = (⟨#[100, 101, 102]⟩ : ByteArray) ∧ k = 2 ∧ row = Obj.cells #[.int .i64 5, .bool false, .int .i64 0, .int .i64 0, .int .i64 0, .string ⟨#[97]⟩, .int .i64 3, .bool false, .int .i64 1, .int .i64 0, .int .i64 0, .string ⟨#[]⟩] 38) ∨ (n = 1 ∧ nm = ⟨#[108, 111, 97, 100]⟩ ∧ k = 1 ∧ row = Obj.cells #[.int .i64 5, .bool false, .int .i64 0, .int .i64 0, .int .i64 0, .string ⟨#[97]⟩] 38)) →
      Calls Tryz.prog 10 #[xVal hp cp sp gp (.pointer x) tp, .string nm, .slice (some ⟨W.heap.size, 0, none⟩) k k] (W.alloc row) fun e w' => e = .returned (.int .i64 0) ∧ TQ w hp cp sp KB (f (n + 1)) w') := hid' (fun n nm k row W S h => by
    rcases h with ⟨rfl, rfl, rfl, rfl⟩ | ⟨rfl, rfl, rfl, rfl⟩
    · exact C0.out _ _ _ _ _ _ _ _ S
    · exact C1.out _ _ _ _ _ _ _ _ S)
  clear nW hKB S2 HF0 C0 C1
  have q1 : eqO ⟨3, false, 1, 0, 0, ⟨#[]⟩⟩ ⟨3, false, 1, 0, 0, ⟨#[]⟩⟩ = true := eqO_self _
  go_region_held3 (fun W' => ∃ n, TQ w hp cp sp KB (f n) W') (first | (with_reducible assumption) | (with_reducible exact ⟨_, by with_reducible assumption⟩) | (with_reducible exact ⟨_, HDR.out _ _ (by with_reducible assumption)⟩) | (with_reducible exact ⟨_, HGR.out _ _ _ (by with_reducible assumption)⟩))
    (first
      | (go_at_call 12; refine (HNU.out _ _ _ (by first | with_reducible assumption | (with_reducible exact HDR.out _ _ (by with_reducible assumption)))).mono ?_; rintro r w7 ⟨rfl, S6⟩)
      | (go_at_call 11; refine (HNA.out _ _ _ (by first | with_reducible assumption | (with_reducible exact HDR.out _ _ (by with_reducible assumption)))).mono ?_; rintro r w7 ⟨rfl, S6⟩)
      | (go_at_call 10; refine (CDO.out _ _ _ _ _ S6 (by first | (with_reducible exact .inl ⟨rfl, rfl, rfl, rfl⟩) | (with_reducible exact .inr ⟨rfl, rfl, rfl, rfl⟩))).mono ?_; rintro r w7 ⟨rfl, S6⟩)
      | (go_at_call 13; refine (C2.out _ _ _ _ _ _ _ _ (by with_reducible assumption)).mono ?_; rintro r w7 ⟨rfl, S6⟩)
      | (go_at_call 14; refine (C3.out _ _ _ _ _ (by with_reducible assumption)).mono ?_; rintro r w7 ⟨rfl, S6⟩))
  go_wp2_with fail
  go_ret
  exact ⟨rfl, S6.chg⟩
end Go.Proofs.YtpgkjgceldleaaaGreat
/- TableDefines: what the heap holds, and the walk. -/
namespace Go.Proofs.YtpgkjgceldleaaaGreat
open Go.RowKit

theorem op_dict20 (w : World) : Calls Tryz.prog 8 #[.string ⟨#[100, 105, 99, 116]⟩] w fun r w2 => r = .returned (.tuple #[.int .i64 59, .bool true]) ∧ Chg NoB w w2 := number_hit 58 3 [100, 105, 99, 116] (by decide +kernel) w
theorem op_begin20 (w : World) : Calls Tryz.prog 8 #[.string ⟨#[98, 101, 103, 105, 110]⟩] w fun r w2 => r = .returned (.tuple #[.int .i64 60, .bool true]) ∧ Chg NoB w w2 := number_hit 59 3 [98, 101, 103, 105, 110] (by decide +kernel) w
theorem op_end20 (w : World) : Calls Tryz.prog 8 #[.string ⟨#[101, 110, 100]⟩] w fun r w2 => r = .returned (.tuple #[.int .i64 61, .bool true]) ∧ Chg NoB w w2 := number_hit 60 3 [101, 110, 100] (by decide +kernel) w
theorem op_store20 (w : World) : Calls Tryz.prog 8 #[.string ⟨#[115, 116, 111, 114, 101]⟩] w fun r w2 => r = .returned (.tuple #[.int .i64 64, .bool true]) ∧ Chg NoB w w2 := number_hit 63 3 [115, 116, 111, 114, 101] (by decide +kernel) w
theorem op_known20 (w : World) : Calls Tryz.prog 8 #[.string ⟨#[107, 110, 111, 119, 110]⟩] w fun r w2 => r = .returned (.tuple #[.int .i64 65, .bool true]) ∧ Chg NoB w w2 := number_hit 64 3 [107, 110, 111, 119, 110] (by decide +kernel) w
theorem op_where20 (w : World) : Calls Tryz.prog 8 #[.string ⟨#[119, 104, 101, 114, 101]⟩] w fun r w2 => r = .returned (.tuple #[.int .i64 67, .bool true]) ∧ Chg NoB w w2 := number_hit 66 3 [119, 104, 101, 114, 101] (by decide +kernel) w
theorem op_countdictstack20 (w : World) : Calls Tryz.prog 8 #[.string ⟨#[99, 111, 117, 110, 116, 100, 105, 99, 116, 115, 116, 97, 99, 107]⟩] w fun r w2 => r = .returned (.tuple #[.int .i64 69, .bool true]) ∧ Chg NoB w w2 := number_hit 68 3 [99, 111, 117, 110, 116, 100, 105, 99, 116, 115, 116, 97, 99, 107] (by decide +kernel) w
/-- The two lowest dictionaries, and a third. -/
noncomputable def vQ (s : ByteArray) (v : O) (ps : List (O × O)) : List DQ := uQ s v ++ [(ps, 3, false)]
theorem vQ_ok (s : ByteArray) (v : O) (ps : List (O × O)) (h : ps.length ≤ 3) : OKQ (vQ s v ps) := okQ_snoc (uQ_ok s v) ⟨h, by simp, by simp; omega⟩ (by simp [uQ])
theorem vQ_length (s : ByteArray) (v : O) (ps : List (O × O)) : (vQ s v ps).length = 3 := rfl
theorem uQ_used (s : ByteArray) (v : O) : used (hQ (uQ s v)) = 726 := by
  have h1 : hQ (uQ s v) = [dcellk true (sysK 162) 162] ++ [dcellk false [(nameO s, v)] 200] := by simp [hQ, uQ]
  rw [h1, used_cat', used_dc _ _ _ (by rw [sysK_length]; decide), used_dc _ _ _ (by simp)]
theorem uQ_new (s : ByteArray) (v : O) : dictH (hQ (uQ s v)) 3 = (hQ (vQ s v []), dcn 2, 0) := by
  have hl : (hQ (uQ s v)).length = 2 := by rw [hQ, List.length_map]; rfl
  have := dict_new (hQ (uQ s v)) 3 (by omega) (by decide) (by rw [uQ_used]; omega)
  rw [hl] at this
  unfold vQ
  rw [hQ_snoc]
  exact this
theorem vQ_def (s : ByteArray) (v u : O) : (vQ s v []).set 2 (setK [] (nameO s) u, 3, false) = vQ s v [(nameO s, u)] := rfl
theorem vQ_store (s : ByteArray) (v u : O) : (vQ s v []).set 1 (setK [(nameO s, v)] (nameO s) u, 200, false) = vQ s u [] := by
  simp [vQ, uQ, setK, same_self]
theorem vQ_low (s : ByteArray) (v : O) (ps : List (O × O)) : lookN (vQ s v ps) (nameO s) 2 = (v, dcn 1, 0) := by
  show (match getK [(nameO s, v)] (nameO s) with | some v => (v, dcn 1, (0 : Int)) | none => lookN (vQ s v ps) (nameO s) 1) = _
  simp [getK, same_self]
theorem vQ_top0 (s : ByteArray) (v : O) : lookN (vQ s v []) (nameO s) 3 = (v, dcn 1, 0) := vQ_low s v []
theorem vQ_top1 (s : ByteArray) (v u : O) : lookN (vQ s v [(nameO s, u)]) (nameO s) 3 = (u, dcn 2, 0) := by
  show (match getK [(nameO s, u)] (nameO s) with | some v => (v, dcn 2, (0 : Int)) | none => lookN (vQ s v [(nameO s, u)]) (nameO s) 2) = _
  simp [getK, same_self]
theorem vQ_get0 (s : ByteArray) (v : O) : getQ (vQ s v []) (nameO s) (dcn 2) = (O.nil, 9) := rfl
theorem vQ_get1 (s : ByteArray) (v u : O) : getQ (vQ s v [(nameO s, u)]) (nameO s) (dcn 2) = (u, 0) := by
  show (match getK [(nameO s, u)] (nameO s) with | some v => (v, (0 : Int)) | none => (O.nil, 9)) = _
  simp [getK, same_self]
theorem dcn_may (i : Nat) (h : i ≤ 100) : mayO (dcn i) = true := by
  simp [mayO, eqO, bareO, O.nil]
  omega
/-- Behind define: the dictionaries, where it is defined, whether in the new one, and what stays. -/
def DefQ (s : ByteArray) (v u : O) (Q : List DQ) (ad : Nat) (e : Int) (y : O) : Prop :=
  OKQ Q ∧ Q.length = 3 ∧ lookN Q (nameO s) 3 = (u, dcn ad, 0) ∧ ad ≤ 2 ∧ (∃ z, getQ Q (nameO s) (dcn 2) = (z, e)) ∧ lookN Q (nameO s) 2 = (y, dcn 1, 0)
theorem defQ_def (s : ByteArray) (v u : O) : DefQ s v u (vQ s v [(nameO s, u)]) 2 0 v := ⟨vQ_ok _ _ _ (by simp), rfl, vQ_top1 s v u, by decide, ⟨u, vQ_get1 s v u⟩, vQ_low _ _ _⟩
theorem defQ_store (s : ByteArray) (v u : O) : DefQ s v u (vQ s u []) 1 9 u := ⟨vQ_ok _ _ _ (by simp), rfl, vQ_top0 s u, by decide, ⟨O.nil, vQ_get0 s u⟩, vQ_low _ _ _⟩
noncomputable def deF (s : ByteArray) (v u : O) (Q : List DQ) (ad : Nat) (e : Int) (y : O) : Nat → TX
  | 0 => (hQ sysQ, dsQ 2, [])
  | 1 => (hQ (uQ s v), dsQ 2, [])
  | 2 => (hQ (vQ s v []), dsQ 2, [dcn 2])
  | 3 => (hQ (vQ s v []), dsQ 2, [])
  | 4 => (hQ (vQ s v []), dsQ 3, [])
  | 6 => (hQ Q, dsQ 3, [u])
  | 8 => (hQ Q, dsQ 3, [dcn ad, bO true])
  | 9 => (hQ Q, dsQ 3, [dcn ad])
  | 11 => (hQ Q, dsQ 3, [bO (decide (e = 0))])
  | 13 => (hQ Q, dsQ 2, [])
  | 14 => (hQ Q, dsQ 2, [y])
  | 15 => (hQ Q, dsQ 2, [])
  | 16 => (hQ Q, dsQ 2, [iO 2])
  | 17 => (hQ Q, dsQ 2, [])
  | _ => (hQ Q, dsQ 3, [])
theorem de_0 {w : World} {s : ByteArray} {v u : Int} {Q : List DQ} {ad : Nat} {e : Int} {y : O} (hs : s.size ≤ 100) (hv : -32768 ≤ v ∧ v < 32768) (hu : -32768 ≤ u ∧ u < 32768) (hp cp sp gp tp : Nat) (dv : Value) (KB : List (Nat × Obj)) (W : World) (S : TQ w hp cp sp KB (deF s (iO v) (iO u) Q ad e y 0) W) :
    Calls Tryz.prog 10 #[xVal hp cp sp gp dv tp, .string ⟨#[100, 101, 102]⟩, .slice (some ⟨W.heap.size, 0, none⟩) 2 2] (W.alloc (.cells #[.int .i64 5, .bool false, .int .i64 0, .int .i64 0, .int .i64 0, .string s, .int .i64 3, .bool false, .int .i64 v, .int .i64 0, .int .i64 0, .string ⟨#[]⟩] 38)) fun r w' => r = .returned (.int .i64 0) ∧ TQ w hp cp sp KB (deF s (iO v) (iO u) Q ad e y 1) w' :=
  TQ.doing [nameO s, iO v] 2 rfl (by simp [deF]) (fun o h => by
    simp only [List.mem_cons, List.not_mem_nil, or_false] at h
    rcases h with rfl | rfl
    · exact name_may _ hs
    · exact may_iO _ (by omega) (by omega)) _ 62 0 true op_def20 (fun w' K' S' => by
      have := qt_def (l := []) sysQ sysQ_ok 1 [] 200 rfl (by decide) s hs (iO v) (may_num _ _ (by omega) (by omega)) (isK_any _ (.inl rfl)) S'
      rwa [uQ_set] at this) _ rfl W S
theorem de_1 {w : World} {s : ByteArray} {v u : Int} {Q : List DQ} {ad : Nat} {e : Int} {y : O} (hs : s.size ≤ 100) (hv : -32768 ≤ v ∧ v < 32768) (hu : -32768 ≤ u ∧ u < 32768) (hp cp sp gp tp : Nat) (dv : Value) (KB : List (Nat × Obj)) (W : World) (S : TQ w hp cp sp KB (deF s (iO v) (iO u) Q ad e y 1) W) :
    Calls Tryz.prog 10 #[xVal hp cp sp gp dv tp, .string ⟨#[100, 105, 99, 116]⟩, .slice (some ⟨W.heap.size, 0, none⟩) 1 1] (W.alloc (.cells #[.int .i64 3, .bool false, .int .i64 3, .int .i64 0, .int .i64 0, .string ⟨#[]⟩] 38)) fun r w' => r = .returned (.int .i64 0) ∧ TQ w hp cp sp KB (deF s (iO v) (iO u) Q ad e y 2) w' :=
  TQ.doing [iO 3] 1 rfl (by simp [deF]) (fun o h => by
    simp only [List.mem_cons, List.not_mem_nil, or_false] at h
    subst h; exact may_iO _ (by omega) (by omega)) _ 59 0 true op_dict20 (fun w' K' S' => qt_dict (l := []) 3 (uQ_new s (iO v)) (dcn_may 2 (by decide)) S') _ rfl W S
theorem de_3 {w : World} {s : ByteArray} {v u : Int} {Q : List DQ} {ad : Nat} {e : Int} {y : O} (hs : s.size ≤ 100) (hv : -32768 ≤ v ∧ v < 32768) (hu : -32768 ≤ u ∧ u < 32768) (hp cp sp gp tp : Nat) (dv : Value) (KB : List (Nat × Obj)) (W : World) (S : TQ w hp cp sp KB (deF s (iO v) (iO u) Q ad e y 3) W) :
    Calls Tryz.prog 10 #[xVal hp cp sp gp dv tp, .string ⟨#[98, 101, 103, 105, 110]⟩, .slice (some ⟨W.heap.size, 0, none⟩) 1 1] (W.alloc (.cells #[.int .i64 10, .bool false, .int .i64 2, .int .i64 0, .int .i64 0, .string ⟨#[]⟩] 38)) fun r w' => r = .returned (.int .i64 0) ∧ TQ w hp cp sp KB (deF s (iO v) (iO u) Q ad e y 4) w' :=
  TQ.doing [dcn 2] 1 rfl (by simp [deF]) (fun o h => by
    simp only [List.mem_cons, List.not_mem_nil, or_false] at h
    subst h; exact dcn_may 2 (by decide)) _ 60 0 true op_begin20 (fun w' K' S' => qt_begin (l := []) (vQ s (iO v) []) (vQ_ok _ _ _ (by simp)) 2 (by decide) (by decide) (by rw [vQ_length]; decide) S') _ rfl W S
theorem de_4d {w : World} {s : ByteArray} {v u : Int} (hs : s.size ≤ 100) (hv : -32768 ≤ v ∧ v < 32768) (hu : -32768 ≤ u ∧ u < 32768) (hp cp sp gp tp : Nat) (dv : Value) (KB : List (Nat × Obj)) (W : World) (S : TQ w hp cp sp KB (deF s (iO v) (iO u) (vQ s (iO v) [(nameO s, iO u)]) 2 0 (iO v) 4) W) :
    Calls Tryz.prog 10 #[xVal hp cp sp gp dv tp, .string ⟨#[100, 101, 102]⟩, .slice (some ⟨W.heap.size, 0, none⟩) 2 2] (W.alloc (.cells #[.int .i64 5, .bool false, .int .i64 0, .int .i64 0, .int .i64 0, .string s, .int .i64 3, .bool false, .int .i64 u, .int .i64 0, .int .i64 0, .string ⟨#[]⟩] 38)) fun r w' => r = .returned (.int .i64 0) ∧ TQ w hp cp sp KB (deF s (iO v) (iO u) (vQ s (iO v) [(nameO s, iO u)]) 2 0 (iO v) 5) w' :=
  TQ.doing [nameO s, iO u] 2 rfl (by simp [deF]) (fun o h => by
    simp only [List.mem_cons, List.not_mem_nil, or_false] at h
    rcases h with rfl | rfl
    · exact name_may _ hs
    · exact may_iO _ (by omega) (by omega)) _ 62 0 true op_def20 (fun w' K' S' => by
      have := qt_def (l := []) (vQ s (iO v) []) (vQ_ok _ _ _ (by simp)) 2 [] 3 rfl (by decide) s hs (iO u) (may_num _ _ (by omega) (by omega)) (isK_any _ (.inl rfl)) S'
      rwa [vQ_def] at this) _ rfl W S
theorem de_4s {w : World} {s : ByteArray} {v u : Int} (hs : s.size ≤ 100) (hv : -32768 ≤ v ∧ v < 32768) (hu : -32768 ≤ u ∧ u < 32768) (hp cp sp gp tp : Nat) (dv : Value) (KB : List (Nat × Obj)) (W : World) (S : TQ w hp cp sp KB (deF s (iO v) (iO u) (vQ s (iO u) []) 1 9 (iO u) 4) W) :
    Calls Tryz.prog 10 #[xVal hp cp sp gp dv tp, .string ⟨#[115, 116, 111, 114, 101]⟩, .slice (some ⟨W.heap.size, 0, none⟩) 2 2] (W.alloc (.cells #[.int .i64 5, .bool false, .int .i64 0, .int .i64 0, .int .i64 0, .string s, .int .i64 3, .bool false, .int .i64 u, .int .i64 0, .int .i64 0, .string ⟨#[]⟩] 38)) fun r w' => r = .returned (.int .i64 0) ∧ TQ w hp cp sp KB (deF s (iO v) (iO u) (vQ s (iO u) []) 1 9 (iO u) 5) w' :=
  TQ.doing [nameO s, iO u] 2 rfl (by simp [deF]) (fun o h => by
    simp only [List.mem_cons, List.not_mem_nil, or_false] at h
    rcases h with rfl | rfl
    · exact name_may _ hs
    · exact may_iO _ (by omega) (by omega)) _ 64 0 true op_store20 (fun w' K' S' => by
      have := qt_store (l := []) (vQ s (iO v) []) (vQ_ok _ _ _ (by simp)) 2 (by rw [vQ_length]; decide) 1 (by decide) [(nameO s, iO v)] 200 rfl (by simp) s hs (iO u) (iO v) (vQ_top0 s (iO v)) (may_num _ _ (by omega) (by omega)) (isK_any _ (.inl rfl)) S'
      rwa [vQ_store] at this) _ rfl W S
theorem de_5 {w : World} {s : ByteArray} {v u : Int} {Q : List DQ} {ad : Nat} {e : Int} {y : O} (hs : s.size ≤ 100) (hv : -32768 ≤ v ∧ v < 32768) (hu : -32768 ≤ u ∧ u < 32768) (hD : DefQ s (iO v) (iO u) Q ad e y) (hp cp sp gp tp : Nat) (dv : Value) (KB : List (Nat × Obj)) (W : World) (S : TQ w hp cp sp KB (deF s (iO v) (iO u) Q ad e y 5) W) :
    Calls Tryz.prog 10 #[xVal hp cp sp gp dv tp, .string ⟨#[108, 111, 97, 100]⟩, .slice (some ⟨W.heap.size, 0, none⟩) 1 1] (W.alloc (.cells #[.int .i64 5, .bool false, .int .i64 0, .int .i64 0, .int .i64 0, .string s] 38)) fun r w' => r = .returned (.int .i64 0) ∧ TQ w hp cp sp KB (deF s (iO v) (iO u) Q ad e y 6) w' :=
  TQ.doing [nameO s] 1 rfl (by simp [deF]) (fun o h => by
    simp only [List.mem_cons, List.not_mem_nil, or_false] at h
    subst h; exact name_may _ hs) _ 63 0 true op_load20 (fun w' K' S' => qt_load (l := []) Q hD.1 3 (by decide) (by rw [hD.2.1]; decide) s hs hD.2.2.1 (may_iO _ (by omega) (by omega)) S') _ rfl W S
theorem de_7 {w : World} {s : ByteArray} {v u : Int} {Q : List DQ} {ad : Nat} {e : Int} {y : O} (hs : s.size ≤ 100) (hv : -32768 ≤ v ∧ v < 32768) (hu : -32768 ≤ u ∧ u < 32768) (hD : DefQ s (iO v) (iO u) Q ad e y) (hp cp sp gp tp : Nat) (dv : Value) (KB : List (Nat × Obj)) (W : World) (S : TQ w hp cp sp KB (deF s (iO v) (iO u) Q ad e y 7) W) :
    Calls Tryz.prog 10 #[xVal hp cp sp gp dv tp, .string ⟨#[119, 104, 101, 114, 101]⟩, .slice (some ⟨W.heap.size, 0, none⟩) 1 1] (W.alloc (.cells #[.int .i64 5, .bool false, .int .i64 0, .int .i64 0, .int .i64 0, .string s] 38)) fun r w' => r = .returned (.int .i64 0) ∧ TQ w hp cp sp KB (deF s (iO v) (iO u) Q ad e y 8) w' :=
  TQ.doing [nameO s] 1 rfl (by simp [deF]) (fun o h => by
    simp only [List.mem_cons, List.not_mem_nil, or_false] at h
    subst h; exact name_may _ hs) _ 67 0 true op_where20 (fun w' K' S' => qt_where (l := []) Q hD.1 3 (by decide) (by rw [hD.2.1]; decide) s hs hD.2.2.1 (dcn_may ad (by have := hD.2.2.2.1; omega)) (by decide) S') _ rfl W S
theorem de_10 {w : World} {s : ByteArray} {v u : Int} {Q : List DQ} {ad : Nat} {e : Int} {y : O} (hs : s.size ≤ 100) (hv : -32768 ≤ v ∧ v < 32768) (hu : -32768 ≤ u ∧ u < 32768) (hD : DefQ s (iO v) (iO u) Q ad e y) (hp cp sp gp tp : Nat) (dv : Value) (KB : List (Nat × Obj)) (W : World) (S : TQ w hp cp sp KB (deF s (iO v) (iO u) Q ad e y 10) W) :
    Calls Tryz.prog 10 #[xVal hp cp sp gp dv tp, .string ⟨#[107, 110, 111, 119, 110]⟩, .slice (some ⟨W.heap.size, 0, none⟩) 2 2] (W.alloc (.cells #[.int .i64 10, .bool false, .int .i64 2, .int .i64 0, .int .i64 0, .string ⟨#[]⟩, .int .i64 5, .bool false, .int .i64 0, .int .i64 0, .int .i64 0, .string s] 38)) fun r w' => r = .returned (.int .i64 0) ∧ TQ w hp cp sp KB (deF s (iO v) (iO u) Q ad e y 11) w' :=
  TQ.doing [dcn 2, nameO s] 2 rfl (by simp [deF]) (fun o h => by
    simp only [List.mem_cons, List.not_mem_nil, or_false] at h
    rcases h with rfl | rfl
    · exact dcn_may 2 (by decide)
    · exact name_may _ hs) _ 65 0 true op_known20 (fun w' K' S' => by
      obtain ⟨z, hz⟩ := hD.2.2.2.2.1
      exact qt_known (l := []) Q hD.1 _ 2 (by rw [hD.2.1]; decide) s hs hz S') _ rfl W S
theorem de_13 {w : World} {s : ByteArray} {v u : Int} {Q : List DQ} {ad : Nat} {e : Int} {y : O} (hs : s.size ≤ 100) (hv : -32768 ≤ v ∧ v < 32768) (hu : -32768 ≤ u ∧ u < 32768) (hD : DefQ s (iO v) (iO u) Q ad e y) (hy : mayO y = true) (hp cp sp gp tp : Nat) (dv : Value) (KB : List (Nat × Obj)) (W : World) (S : TQ w hp cp sp KB (deF s (iO v) (iO u) Q ad e y 13) W) :
    Calls Tryz.prog 10 #[xVal hp cp sp gp dv tp, .string ⟨#[108, 111, 97, 100]⟩, .slice (some ⟨W.heap.size, 0, none⟩) 1 1] (W.alloc (.cells #[.int .i64 5, .bool false, .int .i64 0, .int .i64 0, .int .i64 0, .string s] 38)) fun r w' => r = .returned (.int .i64 0) ∧ TQ w hp cp sp KB (deF s (iO v) (iO u) Q ad e y 14) w' :=
  TQ.doing [nameO s] 1 rfl (by simp [deF]) (fun o h => by
    simp only [List.mem_cons, List.not_mem_nil, or_false] at h
    subst h; exact name_may _ hs) _ 63 0 true op_load20 (fun w' K' S' => qt_load (l := []) Q hD.1 2 (by decide) (by rw [hD.2.1]; decide) s hs hD.2.2.2.2.2 hy S') _ rfl W S
theorem de_12 {w : World} {s : ByteArray} {v u : O} {Q : List DQ} {ad : Nat} {e : Int} {y : O} (hp cp sp gp tp : Nat) (dv : Value) (KB : List (Nat × Obj)) (W : World) (S : TQ w hp cp sp KB (deF s v u Q ad e y 12) W) :
    Calls Tryz.prog 10 #[xVal hp cp sp gp dv tp, .string ⟨#[101, 110, 100]⟩, .slice none 0 0] W fun r w' => r = .returned (.int .i64 0) ∧ TQ w hp cp sp KB (deF s v u Q ad e y 13) w' :=
  TQ.doing0 _ 61 0 true (by simp [deF]) op_end20 (fun w' K' S' => qt_end (l := []) 2 (by decide) (by decide) S') W S
theorem de_15 {w : World} {s : ByteArray} {v u : O} {Q : List DQ} {ad : Nat} {e : Int} {y : O} (hp cp sp gp tp : Nat) (dv : Value) (KB : List (Nat × Obj)) (W : World) (S : TQ w hp cp sp KB (deF s v u Q ad e y 15) W) :
    Calls Tryz.prog 10 #[xVal hp cp sp gp dv tp, .string ⟨#[99, 111, 117, 110, 116, 100, 105, 99, 116, 115, 116, 97, 99, 107]⟩, .slice none 0 0] W fun r w' => r = .returned (.int .i64 0) ∧ TQ w hp cp sp KB (deF s v u Q ad e y 16) w' :=
  TQ.doing0 _ 69 0 true (by simp [deF]) op_countdictstack20 (fun w' K' S' => td_count (l := []) S' (by show (dsQ 2).length ≤ 1000; rw [dsQ_length]; decide) (by simp [deF])) W S
end Go.Proofs.YtpgkjgceldleaaaGreat
/- States of layer 20 for drawn regions, whatever the state; two boxes more. -/
namespace Go.Proofs.YtpgkjgceldleaaaGreat
open Go.RowKit

theorem TQ.alloc2 {w0 W : World} {hp cp sp : Nat} {KB : List (Nat × Obj)} {x : TX} (S : TQ w0 hp cp sp KB x W) (o o' : Obj) : TQ w0 hp cp sp ((W.heap.size + 1, o') :: (W.heap.size, o) :: KB) x ((W.alloc o).alloc o') := by
  have h := (S.alloc o).alloc o'
  rwa [World.size_alloc] at h
/-- Boxes more, whatever the state. -/
def TQY (w0 : World) (hp cp sp : Nat) (KB : List (Nat × Obj)) (W : World) : Prop := ∃ x E, TQ w0 hp cp sp (E ++ KB) x W
section
variable {w0 W : World} {hp cp sp : Nat} {KB : List (Nat × Obj)} {x : TX}
theorem TQY.of (S : TQ w0 hp cp sp KB x W) : TQY w0 hp cp sp KB W := ⟨x, [], S⟩
theorem TQY.more {q : Nat × Obj} (S : TQ w0 hp cp sp (q :: KB) x W) : TQY w0 hp cp sp KB W := ⟨x, [q], S⟩
theorem TQY.more2 {q q' : Nat × Obj} (S : TQ w0 hp cp sp (q :: q' :: KB) x W) : TQY w0 hp cp sp KB W := ⟨x, [q, q'], S⟩
theorem TQY.drew (h : TQY w0 hp cp sp KB W) : TQY w0 hp cp sp KB W.drew := by obtain ⟨x, E, S⟩ := h; exact ⟨x, E, S.drew⟩
theorem TQY.alloc (h : TQY w0 hp cp sp KB W) (o : Obj) : TQY w0 hp cp sp KB (W.alloc o) := by obtain ⟨x, E, S⟩ := h; exact ⟨x, _ :: E, S.alloc o⟩
theorem TQY.cells {g : Nat} {cs : Array Value} {T : TypeId} {fz : Nat × Nat} (hm : (g, Obj.cells cs T fz) ∈ KB) : ∀ W, TQY w0 hp cp sp KB W → ∀ i, W.cell? ⟨g, i, none⟩ = cs[i]? := by
  rintro W ⟨x, E, S⟩ i; exact cells_of (S.box _ (List.mem_append_right _ hm)) i
theorem TQ.putO {b : Nat} {c0 c1 c2 c3 c4 c5 : Value} {T : TypeId} (S : TQ w0 hp cp sp ((b, .cells #[c0, c1, c2, c3, c4, c5] T) :: KB) x W) (kk : Int) (kx : Bool) (kn kp kl : Int) (ks : ByteArray) :
    TQ w0 hp cp sp ((b, .cells #[.int .i64 kk, .bool kx, .int .i64 kn, .int .i64 kp, .int .i64 kl, .string ks] T) :: KB) x ((((((W.setCell ⟨b, 0, none⟩ (.int .i64 kk)).setCell ⟨b, 1, none⟩ (.bool kx)).setCell ⟨b, 2, none⟩ (.int .i64 kn)).setCell ⟨b, 3, none⟩ (.int .i64 kp)).setCell ⟨b, 4, none⟩ (.int .i64 kl)).setCell ⟨b, 5, none⟩ (.string ks)) := TabAt.putO S kk kx kn kp kl ks
theorem TQ.two_old {p q : Nat} {c0 c1 c2 c3 c4 c5 b0 b1 b2 b3 b4 b5 : Value} {T T' : TypeId} (S : TQ w0 hp cp sp ((q, .cells #[c0, c1, c2, c3, c4, c5] T) :: (p, .cells #[b0, b1, b2, b3, b4, b5] T') :: KB) x W)
    (vk : Int) (vx : Bool) (vn vp vl : Int) (vs : ByteArray) (dk : Int) (dx : Bool) (dn dp dl : Int) (dS : ByteArray) : TQ w0 hp cp sp
      ((p, .cells #[.int .i64 vk, .bool vx, .int .i64 vn, .int .i64 vp, .int .i64 vl, .string vs] T') :: (q, .cells #[.int .i64 dk, .bool dx, .int .i64 dn, .int .i64 dp, .int .i64 dl, .string dS] T) :: KB) x
      ((((((((((((W.setCell ⟨p, 0, none⟩ (.int .i64 vk)).setCell ⟨p, 1, none⟩ (.bool vx)).setCell ⟨p, 2, none⟩ (.int .i64 vn)).setCell ⟨p, 3, none⟩ (.int .i64 vp)).setCell ⟨p, 4, none⟩ (.int .i64 vl)).setCell ⟨p, 5, none⟩ (.string vs)).setCell ⟨q, 0, none⟩ (.int .i64 dk)).setCell ⟨q, 1, none⟩ (.bool dx)).setCell ⟨q, 2, none⟩ (.int .i64 dn)).setCell ⟨q, 3, none⟩ (.int .i64 dp)).setCell ⟨q, 4, none⟩ (.int .i64 dl)).setCell ⟨q, 5, none⟩ (.string dS)) :=
  TabAt.two_old S vk vx vn vp vl vs dk dx dn dp dl dS
theorem TQ.two_new {p q : Nat} {c0 c1 c2 c3 c4 c5 b0 b1 b2 b3 b4 b5 : Value} {T T' : TypeId} (S : TQ w0 hp cp sp ((q, .cells #[c0, c1, c2, c3, c4, c5] T) :: (p, .cells #[b0, b1, b2, b3, b4, b5] T') :: KB) x W)
    (vk : Int) (vx : Bool) (vn vp vl : Int) (vs : ByteArray) (dk : Int) (dx : Bool) (dn dp dl : Int) (dS : ByteArray) : TQ w0 hp cp sp
      ((q, .cells #[.int .i64 vk, .bool vx, .int .i64 vn, .int .i64 vp, .int .i64 vl, .string vs] T) :: (p, .cells #[.int .i64 dk, .bool dx, .int .i64 dn, .int .i64 dp, .int .i64 dl, .string dS] T') :: KB) x
      ((((((((((((W.setCell ⟨q, 0, none⟩ (.int .i64 vk)).setCell ⟨q, 1, none⟩ (.bool vx)).setCell ⟨q, 2, none⟩ (.int .i64 vn)).setCell ⟨q, 3, none⟩ (.int .i64 vp)).setCell ⟨q, 4, none⟩ (.int .i64 vl)).setCell ⟨q, 5, none⟩ (.string vs)).setCell ⟨p, 0, none⟩ (.int .i64 dk)).setCell ⟨p, 1, none⟩ (.bool dx)).setCell ⟨p, 2, none⟩ (.int .i64 dn)).setCell ⟨p, 3, none⟩ (.int .i64 dp)).setCell ⟨p, 4, none⟩ (.int .i64 dl)).setCell ⟨p, 5, none⟩ (.string dS)) :=
  TabAt.two_new S vk vx vn vp vl vs dk dx dn dp dl dS
/-- Two boxes more. -/
def LCQ (w0 : World) (hp cp sp : Nat) (KB : List (Nat × Obj)) (x : TX) (p q : O) (s1 s2 : Value) (W : World) : Prop :=
  ∃ a b, s1 = ptr a ∧ s2 = ptr b ∧ TQ w0 hp cp sp ((a, .cells p.cells.toArray 38) :: (b, .cells q.cells.toArray 38) :: KB) x W
theorem LCQ.mk {a b : Nat} {pk : Int} {px : Bool} {pn pp pl : Int} {ps : ByteArray} {uk : Int} {ux : Bool} {un up ul : Int} {us : ByteArray} (S : TQ w0 hp cp sp ((a, Obj.cells #[.int .i64 pk, .bool px, .int .i64 pn, .int .i64 pp, .int .i64 pl, .string ps] 38) :: (b, Obj.cells #[.int .i64 uk, .bool ux, .int .i64 un, .int .i64 up, .int .i64 ul, .string us] 38) :: KB) x W) : LCQ w0 hp cp sp KB x ⟨pk, px, pn, pp, pl, ps⟩ ⟨uk, ux, un, up, ul, us⟩ (ptr a) (ptr b) W := ⟨a, b, rfl, rfl, S⟩
theorem LCQ.mk' {a b : Nat} {pk : Int} {px : Bool} {pn pp pl : Int} {ps : ByteArray} {uk : Int} {ux : Bool} {un up ul : Int} {us : ByteArray} (S : TQ w0 hp cp sp ((b, Obj.cells #[.int .i64 uk, .bool ux, .int .i64 un, .int .i64 up, .int .i64 ul, .string us] 38) :: (a, Obj.cells #[.int .i64 pk, .bool px, .int .i64 pn, .int .i64 pp, .int .i64 pl, .string ps] 38) :: KB) x W) : LCQ w0 hp cp sp KB x ⟨pk, px, pn, pp, pl, ps⟩ ⟨uk, ux, un, up, ul, us⟩ (ptr a) (ptr b) W := ⟨a, b, rfl, rfl, S.perm (List.Perm.swap _ _ _)⟩
end

end Go.Proofs.YtpgkjgceldleaaaGreat
/- The region of TableDefines that takes two operands, apart from the walk. -/
namespace Go.Proofs.YtpgkjgceldleaaaGreat
open Go.RowKit

/-- A region of a code, by its number. -/
def regT (n : Nat) : Code → Option Code
  | .region i ops b => match Nat.beq i n with
    | true => some (.region i ops b)
    | false => none
  | .seq a b => match regT n a with
    | some c => some c
    | none => regT n b
  | .cond _ a b => match regT n a with
    | some c => some c
    | none => regT n b
  | .block _ c => regT n c
  | .loop c => regT n c
  | _ => none
/-- A post that is of the ordinary end alone. -/
def NPT (K : Act → World → Prop) : Exit → Act → World → Prop
  | .normal, a, w => K a w
  | _, _, _ => False
theorem npt_then {K : Act → World → Prop} {Q : Exit → Act → World → Prop} {code : Code} {a : Act} {w : World} (h : code.wp Tryz.prog (NPT K) a w) : code.wp Tryz.prog (Exit.then K Q) a w :=
  Code.wp_mono (fun e a w h => by cases e <;> first | exact h | exact h.elim) h
theorem TQY.any {w0 W : World} {hp cp sp : Nat} {E KB : List (Nat × Obj)} {x : TX} (S : TQ w0 hp cp sp (E ++ KB) x W) : TQY w0 hp cp sp KB W := ⟨x, E, S⟩
theorem TQ.allocE {w0 W : World} {hp cp sp : Nat} {E KB : List (Nat × Obj)} {x : TX} (S : TQ w0 hp cp sp (E ++ KB) x W) (o : Obj) : TQ w0 hp cp sp (((W.heap.size, o) :: E) ++ KB) x (W.alloc o) := S.alloc o
theorem TQ.allocE2 {w0 W : World} {hp cp sp : Nat} {E KB : List (Nat × Obj)} {x : TX} (S : TQ w0 hp cp sp (E ++ KB) x W) (o o' : Obj) : TQ w0 hp cp sp (((W.heap.size + 1, o') :: (W.heap.size, o) :: E) ++ KB) x ((W.alloc o).alloc o') := S.alloc2 o o'
set_option maxRecDepth 100000 in
set_option maxHeartbeats 40000000 in
theorem two_tops (code : Code) (hcode : (Tryz.f3.body).bind (regT 21) = some code) {t0 t1 t2 t3 t4 t5 t6 t7 t8 t9 t10 t12 t13 t14 t15 t16 t17 t18 t19 t20 t21 t22 t23 t24 t25 t26 t27 t28 t29 t30 t31 t32 t33 t34 t35 t36 t37 t38 t39 t40 t41 t42 t43 t44 t45 t46 t47 t48 t49 t50 t51 t52 t53 t54 t55 t56 t57 t58 t59 t60 t61 t62 t63 t64 t65 t66 t67 t68 t69 t70 t71 t72 t73 t74 t75 t76 t77 t78 t79 t80 t81 t82 t83 t84 t85 t86 t87 t88 t89 t90 t91 t92 t93 t94 t95 t96 t97 t98 t99 t100 t101 t102 t103 t104 t105 t106 t107 t108 t109 t110 t111 t112 t113 t114 t115 t116 t117 t118 t119 t120 t121 t122 t123 t124 t125 t126 t127 t128 t129 t130 t131 t132 t133 t134 t135 t136 t137 t138 t139 t140 t141 t142 t143 t144 t145 t146 t147 t148 t149 t150 t151 t152 t153 t154 t155 t156 t157 t158 t159 t160 t161 t162 t163 t164 t165 t166 t167 t168 t169 t170 t171 t172 t173 t174 t175 t176 t177 t178 t179 t180 t181 t182 t183 t184 t185 t186 t187 t188 t189 t190 : Value} {w w7 : World} {hp cp sp gp tp g2 : Nat} {dv : Value} {K3 : List (Nat × Obj)} {x8 x9 x10 : TX} {vk vn vp vl uk un up ul : Int} {vx ux : Bool} {vs us : ByteArray}
    (S6 : TQ w hp cp sp K3 x8 w7) (nW : (g2, xBox hp cp sp gp dv tp) ∈ K3)
    (T8 : Hid (∀ KB W, TQ w hp cp sp KB x8 W → Calls Tryz.prog 13 #[xVal hp cp sp gp dv tp] W fun r w' => r = .returned (O.val ⟨vk, vx, vn, vp, vl, vs⟩) ∧ TQ w hp cp sp KB x9 w'))
    (T9 : Hid (∀ KB W, TQ w hp cp sp KB x9 W → Calls Tryz.prog 13 #[xVal hp cp sp gp dv tp] W fun r w' => r = .returned (O.val ⟨uk, ux, un, up, ul, us⟩) ∧ TQ w hp cp sp KB x10 w'))
    (K' : Act → World → Prop) (hK : ∀ (s18 s19 u87 u88 u89 u90 : Value) (wx : World), LCQ w hp cp sp K3 x10 ⟨vk, vx, vn, vp, vl, vs⟩ ⟨uk, ux, un, up, ul, us⟩ s18 s19 wx → K' { tmps := #[t0, t1, t2, t3, t4, t5, t6, t7, t8, t9, t10, .pointer (some ⟨g2, 0, none⟩), t12, t13, t14, t15, t16, t17, s18, s19, t20, t21, t22, t23, t24, t25, t26, t27, t28, t29, t30, t31, t32, t33, t34, t35, t36, t37, t38, t39, t40, t41, t42, t43, t44, t45, t46, t47, t48, t49, t50, t51, t52, t53, t54, t55, t56, t57, t58, t59, t60, t61, t62, t63, t64, t65, t66, t67, t68, t69, t70, t71, t72, t73, t74, t75, t76, t77, t78, t79, t80, t81, t82, t83, t84, t85, t86, u87, u88, u89, u90, t91, t92, t93, t94, t95, t96, t97, t98, t99, t100, t101, t102, t103, t104, t105, t106, t107, t108, t109, t110, t111, t112, t113, t114, t115, t116, t117, t118, t119, t120, t121, t122, t123, t124, t125, t126, t127, t128, t129, t130, t131, t132, t133, t134, t135, t136, t137, t138, t139, t140, t141, t142, t143, t144, t145, t146, t147, t148, t149, t150, t151, t152, t153, t154, t155, t156, t157, t158, t159, t160, t161, t162, t163, t164, t165, t166, t167, t168, t169, t170, t171, t172, t173, t174, t175, t176, t177, t178, t179, t180, t181, t182, t183, t184, t185, t186, t187, t188, t189, t190], defers := [] } wx) :
    code.wp Tryz.prog (NPT K') { tmps := #[t0, t1, t2, t3, t4, t5, t6, t7, t8, t9, t10, .pointer (some ⟨g2, 0, none⟩), t12, t13, t14, t15, t16, t17, t18, t19, t20, t21, t22, t23, t24, t25, t26, t27, t28, t29, t30, t31, t32, t33, t34, t35, t36, t37, t38, t39, t40, t41, t42, t43, t44, t45, t46, t47, t48, t49, t50, t51, t52, t53, t54, t55, t56, t57, t58, t59, t60, t61, t62, t63, t64, t65, t66, t67, t68, t69, t70, t71, t72, t73, t74, t75, t76, t77, t78, t79, t80, t81, t82, t83, t84, t85, t86, t87, t88, t89, t90, t91, t92, t93, t94, t95, t96, t97, t98, t99, t100, t101, t102, t103, t104, t105, t106, t107, t108, t109, t110, t111, t112, t113, t114, t115, t116, t117, t118, t119, t120, t121, t122, t123, t124, t125, t126, t127, t128, t129, t130, t131, t132, t133, t134, t135, t136, t137, t138, t139, t140, t141, t142, t143, t144, t145, t146, t147, t148, t149, t150, t151, t152, t153, t154, t155, t156, t157, t158, t159, t160, t161, t162, t163, t164, t165, t166, t167, t168, t169, t170, t171, t172, t173, t174, t175, t176, t177, t178, t179, t180, t181, t182, t183, t184, t185, t186, t187, t188, t189, t190], defers := [] } w7 := by
  have h : (Tryz.f3.body).bind (regT 21) = some _ := rfl
  obtain rfl := Option.some.inj (hcode.symm.trans h)
  clear h hcode
  have Q_nW := TQY.cells (w0 := w) (hp := hp) (cp := cp) (sp := sp) nW
  have l_nW := blk_lt (S6.box _ nW)
  simp only at l_nW
  have hS1 : TQY w hp cp sp K3 w7 := TQY.of S6
  have E0 : TQ w hp cp sp ([] ++ K3) x8 w7.drew := S6.drew
  have E1 : TQ w hp cp sp ([(w7.heap.size, Obj.cells #[.int .i64 0, .bool false, .int .i64 0, .int .i64 0, .int .i64 0, .string ⟨#[]⟩] 38)] ++ K3) x8 (w7.alloc (Obj.cells #[.int .i64 0, .bool false, .int .i64 0, .int .i64 0, .int .i64 0, .string ⟨#[]⟩] 38)).drew := (S6.alloc _).drew
  have E2 : TQ w hp cp sp ([(w7.heap.size + 1, Obj.cells #[.int .i64 0, .bool false, .int .i64 0, .int .i64 0, .int .i64 0, .string ⟨#[]⟩] 38), (w7.heap.size, Obj.cells #[.int .i64 0, .bool false, .int .i64 0, .int .i64 0, .int .i64 0, .string ⟨#[]⟩] 38)] ++ K3) x8 ((w7.alloc (Obj.cells #[.int .i64 0, .bool false, .int .i64 0, .int .i64 0, .int .i64 0, .string ⟨#[]⟩] 38)).alloc (Obj.cells #[.int .i64 0, .bool false, .int .i64 0, .int .i64 0, .int .i64 0, .string ⟨#[]⟩] 38)).drew := (S6.alloc2 _ _).drew
  have T8 := hid' (fun E W (S : TQ w hp cp sp (E ++ K3) x8 W) => T8.out _ W S)
  have T9 := hid' (fun E W (S : TQ w hp cp sp (E ++ K3) x9 W) => T9.out _ W S)
  have F0 : TQY w hp cp sp K3 w7.drew := TQY.any E0
  have F1 : TQY w hp cp sp K3 (w7.alloc (Obj.cells #[.int .i64 0, .bool false, .int .i64 0, .int .i64 0, .int .i64 0, .string ⟨#[]⟩] 38)).drew := TQY.any E1
  have F2 : TQY w hp cp sp K3 ((w7.alloc (Obj.cells #[.int .i64 0, .bool false, .int .i64 0, .int .i64 0, .int .i64 0, .string ⟨#[]⟩] 38)).alloc (Obj.cells #[.int .i64 0, .bool false, .int .i64 0, .int .i64 0, .int .i64 0, .string ⟨#[]⟩] 38)).drew := TQY.any E2
  clear S6 nW
  have HK := hid' hK
  clear hK
  go_region_held3 (fun W' => TQY w hp cp sp K3 W') (first | (with_reducible assumption) | (with_reducible exact TQY.alloc (by with_reducible assumption) _) | (with_reducible exact TQY.alloc (TQY.alloc (by with_reducible assumption) _) _) | (with_reducible exact TQY.drew (by with_reducible assumption)) | (with_reducible exact TQY.drew (TQY.alloc (by with_reducible assumption) _)) | (with_reducible exact TQY.drew (TQY.alloc (TQY.alloc (by with_reducible assumption) _) _)))
    (first
      | (go_at_call 13; refine (T8.out _ _ (by with_reducible assumption)).mono ?_; rintro r wa ⟨rfl, SA⟩; have hA0 := TQY.any SA; (try have yA := blk_lt (SA.box _ m0)); (try simp only at yA); (try have yB := blk_lt (SA.box _ m1)); (try simp only at yB); have E3 := SA.allocE (Obj.cells #[.int .i64 0, .bool false, .int .i64 0, .int .i64 0, .int .i64 0, .string ⟨#[]⟩] 38); have E4 := SA.allocE2 (Obj.cells #[.int .i64 0, .bool false, .int .i64 0, .int .i64 0, .int .i64 0, .string ⟨#[]⟩] 38) (Obj.cells #[.int .i64 0, .bool false, .int .i64 0, .int .i64 0, .int .i64 0, .string ⟨#[]⟩] 38); clear E0 E1 E2)
      | (go_at_call 13; refine (T9.out _ _ (by with_reducible assumption)).mono ?_; rintro r wb ⟨rfl, SB⟩; have hB0 := TQY.any SB; (try simp only [List.cons_append, List.nil_append] at SB); (try have yz := blk_lt (SB.box _ m0)); (try simp only at yz); (try have Rz := cells_of (SB.box _ m0)); (try simp only at Rz); (try have Zz := free_of (SB.box _ m0)); (try simp only at Zz); (try have yx := blk_lt (SB.box _ m1)); (try simp only at yx); (try have Rx := cells_of (SB.box _ m1)); (try simp only at Rx); (try have Zx := free_of (SB.box _ m1)); (try simp only at Zx); (try (with_reducible have t1 := TQY.more (KB := K3) (SB.putO vk vx vn vp vl vs))); (try (with_reducible have t2 := TQY.more (KB := K3) (SB.putO uk ux un up ul us))); (try (with_reducible have t3 := TQY.more2 (KB := K3) ((SB.perm (List.Perm.swap _ _ _)).putO vk vx vn vp vl vs))); (try (with_reducible have t4 := TQY.more2 (KB := K3) (SB.two_old vk vx vn vp vl vs uk ux un up ul us))); (try (with_reducible have t5 := TQY.more2 (KB := K3) (SB.putO vk vx vn vp vl vs))); (try (with_reducible have t6 := TQY.more2 (KB := K3) (SB.two_new vk vx vn vp vl vs uk ux un up ul us)))))
  all_goals
    show K' _ _
    refine HK.out _ _ _ _ _ _ _ ?_
  · have S9 := (SB.alloc (Obj.cells #[.int .i64 vk, .bool vx, .int .i64 vn, .int .i64 vp, .int .i64 vl, .string vs] 38)).alloc (Obj.cells #[.int .i64 uk, .bool ux, .int .i64 un, .int .i64 up, .int .i64 ul, .string us] 38)
    simp only [World.size_alloc] at S9
    with_reducible exact LCQ.mk' S9
  · have S9 := (SB.alloc (Obj.cells #[.int .i64 uk, .bool ux, .int .i64 un, .int .i64 up, .int .i64 ul, .string us] 38)).alloc (Obj.cells #[.int .i64 vk, .bool vx, .int .i64 vn, .int .i64 vp, .int .i64 vl, .string vs] 38)
    simp only [World.size_alloc] at S9
    with_reducible exact LCQ.mk S9
  · have S9 := (SB.putO vk vx vn vp vl vs).alloc (Obj.cells #[.int .i64 uk, .bool ux, .int .i64 un, .int .i64 up, .int .i64 ul, .string us] 38)
    simp only [World.size_setCell] at S9
    with_reducible exact LCQ.mk' S9
  · with_reducible exact LCQ.mk (SB.two_old vk vx vn vp vl vs uk ux un up ul us)
  · have S9 := (SB.putO uk ux un up ul us).alloc (Obj.cells #[.int .i64 vk, .bool vx, .int .i64 vn, .int .i64 vp, .int .i64 vl, .string vs] 38)
    simp only [World.size_setCell] at S9
    with_reducible exact LCQ.mk S9
  · with_reducible exact LCQ.mk (SB.two_new vk vx vn vp vl vs uk ux un up ul us)
  · have S9 := (SB.putO vk vx vn vp vl vs).alloc (Obj.cells #[.int .i64 uk, .bool ux, .int .i64 un, .int .i64 up, .int .i64 ul, .string us] 38)
    simp only [World.size_setCell] at S9
    with_reducible exact LCQ.mk' S9
  · with_reducible exact LCQ.mk (SB.two_old vk vx vn vp vl vs uk ux un up ul us)
  · with_reducible exact LCQ.mk (SB.two_old vk vx vn vp vl vs uk ux un up ul us)
  · have S9 := (SB.putO uk ux un up ul us).alloc (Obj.cells #[.int .i64 vk, .bool vx, .int .i64 vn, .int .i64 vp, .int .i64 vl, .string vs] 38)
    simp only [World.size_setCell] at S9
    with_reducible exact LCQ.mk S9
  · with_reducible exact LCQ.mk (SB.two_new vk vx vn vp vl vs uk ux un up ul us)
  · with_reducible exact LCQ.mk (SB.two_new vk vx vn vp vl vs uk ux un up ul us)
end Go.Proofs.YtpgkjgceldleaaaGreat
