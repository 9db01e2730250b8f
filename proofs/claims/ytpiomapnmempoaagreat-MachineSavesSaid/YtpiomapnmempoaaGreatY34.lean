/- Parts of the proof: Ubu. -/
import Derived.Test.YtpiomapnmempoaaGreatY33
namespace Go.Proofs.YtpiomapnmempoaaGreat
open Go.RowKit
def progB (F : List C → ByteArray → O × Int) (L : List C) (ts : List Tok) : List C × O × Int × Int :=
 match objsB F L ts with
 | (L1, os, a, e) => if e = 0 then (match arrB L1 os with | (L2, o, e2) => if e2 = 0 then (L2, o, 0, 0) else (L2, O.nil, (ts.length : Int), e2)) else (L1, O.nil, a, e)
set_option maxRecDepth 100000 in
set_option maxHeartbeats 4000000 in
theorem prog_any {w0 w : World} {M : List (Nat × List C)} {K : List (Nat × Obj)} {hp cp : Nat} {L0 : List C} (A : Ats w0 w ((hp, L0) :: M) K) (vt : Value) (toks : List Tok) (HT : ∀ W M' E, Ats w0 W M' (E ++ K) → ToksAt W vt toks) (htk : ∀ t ∈ toks, TokB t) (hn : toks.length ≤ 1000)
 (F : List C → ByteArray → O × Int) (HFI : ∀ i L ls bg t, runO F 0 (toks.take i) (L0, [[]], []) = .inl (L, ls, bg) → toks[i]? = some t → t.kind = 5 → mayT t = true → ∀ W E, Ats w0 W ((hp, L) :: M) (E ++ K) →
  Calls Tryz.prog 69 #[ptr cp, (exeN t.s).val] W fun r w' => ∃ d, r = .returned (.tuple #[(F L t.s).1.val, d, .int .i64 (F L t.s).2]) ∧ Ats w0 w' ((hp, L) :: M) (E ++ K))
 {L' : List C} {o : O} {at_ e : Int} (hres : progB F L0 toks = (L', o, at_, e)) :
 Calls Tryz.prog 26 #[ptr hp, ptr cp, vt] w fun r w' => r = .returned (.tuple #[o.val, .int .i64 at_, .int .i64 e]) ∧ Ats w0 w' ((hp, L') :: M) K := by
 obtain ⟨L1, os, a1, e1, ho⟩ : ∃ L1 os a1 e1, objsB F L0 toks = (L1, os, a1, e1) := ⟨_, _, _, _, rfl⟩
 obtain ⟨n, hn'⟩ : ∃ n, toks.length = n := ⟨_, rfl⟩
 obtain ⟨ad, cap, rfl, hcap, -⟩ := HT w _ [] A; unfold progB at hres; rw [ho] at hres; simp only at hres; have A1 := A.alloc (Obj.cells #[.int .i64 0, .bool false, .int .i64 0, .int .i64 0, .int .i64 0, .string ⟨#[]⟩] 49); generalize hg : w.heap.size = b6 at *
 have hKK : ∀ (E : List (Nat × Obj)), E ++ (b6, Obj.cells #[.int .i64 0, .bool false, .int .i64 0, .int .i64 0, .int .i64 0, .string ⟨#[]⟩] 49) :: K = (E ++ [(b6, Obj.cells #[.int .i64 0, .bool false, .int .i64 0, .int .i64 0, .int .i64 0, .string ⟨#[]⟩] 49)]) ++ K := fun E => by simp
 have HO := hid' (fun W (A : Ats w0 W ((hp, L0) :: M) ((b6, Obj.cells #[.int .i64 0, .bool false, .int .i64 0, .int .i64 0, .int .i64 0, .string ⟨#[]⟩] 49) :: K)) => objs_any (cp := cp) A (.slice ad toks.length cap) toks (fun W M' E A' => HT W M' (E ++ [(b6, Obj.cells #[.int .i64 0, .bool false, .int .i64 0, .int .i64 0, .int .i64 0, .string ⟨#[]⟩] 49)]) (by rw [← hKK]; exact A')) htk hn F (fun i L ls bg t h1 h2 h3 h4 W E A' => by
  have := HFI i L ls bg t h1 h2 h3 h4 W (E ++ [(b6, Obj.cells #[.int .i64 0, .bool false, .int .i64 0, .int .i64 0, .int .i64 0, .string ⟨#[]⟩] 49)]) (by rw [← hKK]; exact A'); rw [← hKK] at this
  exact this) ho)
 rw [hn'] at HO hres ⊢; have HRES := hid' hres; clear HT htk HFI ho hKK hn hcap hres; go_enter Tryz.func26, Tryz.ntmps26
 go_upto_region 1 with (fail)
 generalize hW : w.alloc _ = w1 at *; clear hW hg A; go_wp2_with fail
 refine (HO.out _ A1).mono ?_; rintro r w2 ⟨v, R, rfl, hR, A2⟩; clear A1 HO
 by_cases he : e1 = 0
 · subst he
   obtain ⟨L2, oo, e2, ha⟩ : ∃ L2 oo e2, arrB L1 os = (L2, oo, e2) := ⟨_, _, _, rfl⟩
   have hres := HRES.out; rw [if_pos rfl, ha] at hres; simp only at hres; obtain ⟨av, c, rfl, hc⟩ := rowG_slice hR
   have HAR := hid' (barr_any A2 av os.length c os rfl hc (fun h0 => by
    obtain ⟨g, cap', cur, e1, e2, e3⟩ := hR.shape h0; simp only [Value.slice.injEq] at e1; refine ⟨g, cur, (0, 0), e1.1, by rw [e2]; exact List.mem_append_left _ m0, fun i x hx j hj => ?_⟩; have hi : i < os.length := (List.getElem?_eq_some_iff.1 hx).1; rw [e3 _ (by omega)]
    exact flatB_at os i j x hx hj) ha)
   have HR := hid' hres; clear hR A2 ha hres; go_wp2_with fail
   refine HAR.out.mono ?_; rintro r w3 ⟨rfl, A3⟩; clear HAR
   replace A3 := A3.keep (List.sublist_append_right R _)
   obtain ⟨ok, ox, on, op, ol, oS⟩ := oo; have Rx := cells_of (A3.box _ m0); have yx := blk_lt (A3.box _ m0); have Zx := free_of (A3.box _ m0); simp only at Rx yx Zx; have A4 := A3.putO ok ox on op ol oS
   go_upto_region 5 with (fail)
   generalize (((((w3.setCell _ _).setCell _ _).setCell _ _).setCell _ _).setCell _ _).setCell _ _ = w4 at *; clear A3 Rx yx Zx; have Rx := cells_of (A4.box _ m0); have yx := blk_lt (A4.box _ m0); have Zx := free_of (A4.box _ m0); simp only at Rx yx Zx; have hres := HR.out
   by_cases h2 : e2 = 0
   · subst h2; rw [if_pos rfl] at hres; simp only [Prod.mk.injEq] at hres; obtain ⟨rfl, rfl, rfl, rfl⟩ := hres; go_wp2_with fail
     have A5 := A4.putO ok ox on op ol oS; have R5 := cells_of (A5.box _ m0); refine bodyPost_ret (v := .tuple #[O.val ⟨ok, ox, on, op, ol, oS⟩, .int .i64 0, .int .i64 0]) ?_ rfl ⟨rfl, A5.keep (List.sublist_cons_self _ _)⟩; simp [results, Tryz.results26, go_sem, R5]
   · rw [if_neg h2] at hres; simp only [Prod.mk.injEq] at hres; obtain ⟨rfl, rfl, rfl, rfl⟩ := hres
     have h2' : decide (e2 = 0) = false := by simp [h2]
     go_wp2_with fail
     have A5 := A4.putO 0 false 0 0 0 ⟨#[]⟩; have R5 := cells_of (A5.box _ m0); refine bodyPost_ret (v := .tuple #[O.val O.nil, .int .i64 n, .int .i64 e2]) ?_ rfl ⟨rfl, A5.keep (List.sublist_cons_self _ _)⟩; simp [results, Tryz.results26, go_sem, R5, O.nil]
 · have hres := HRES.out; rw [if_neg he] at hres; simp only [Prod.mk.injEq] at hres; obtain ⟨rfl, rfl, rfl, rfl⟩ := hres
   have he' : decide (e1 = 0) = false := by simp [he]
   replace A2 := A2.keep (List.sublist_append_right R _)
   have Rx := cells_of (A2.box _ m0); have yx := blk_lt (A2.box _ m0); have Zx := free_of (A2.box _ m0); simp only at Rx yx Zx; clear hR; go_wp2_with fail
   have A5 := A2.putO 0 false 0 0 0 ⟨#[]⟩; have R5 := cells_of (A5.box _ m0); refine bodyPost_ret (v := .tuple #[O.val O.nil, .int .i64 a1, .int .i64 e1]) ?_ rfl ⟨rfl, A5.keep (List.sublist_cons_self _ _)⟩; simp [results, Tryz.results26, go_sem, R5, O.nil]
end Go.Proofs.YtpiomapnmempoaaGreat
