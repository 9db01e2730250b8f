/- Parts of the proof: Uxj, Uxr, Uxn. -/
import Derived.Test.YtoogmimbmgdflaaGreatY39
import Derived.Test.YtoogmimbmgdflaaGreatY41
namespace Go.Proofs.YtoogmimbmgdflaaGreat
open Go.RowKit
variable {w : World} {HB L L' : List C} {hi i lo m mid : Nat} {o : O} {e : Int}
section
theorem partLawR : WideMaps.KeyLaw Tryz.prog 148 := deep_law_laid (by kernel_rfl) (m := 2) (by omega) (of_decide_eq_true (by kernel_rfl)) (by kernel_rfl) (by kernel_rfl)
theorem part_ktR : Tryz.prog.keyType 148 = true := by kernel_rfl
theorem part_cellsR : Tryz.prog.cellsOf 148 = 3 := by kernel_rfl
theorem part_formedR (a b c : Int) : (partV (a, b, c)).formed Tryz.prog 148 = true := by simp [Value.formed, Tryz.underlying148, part_cellsR]
theorem part_litsR (m : Nat) (a b c : Int) (ha : (Lit.int .i64 a).wf = true) (hb : (Lit.int .i64 b).wf = true) (hc : (Lit.int .i64 c).wf = true) :
 Tryz.prog.keyLits (m + 2) 148 [.int .i64 a, .int .i64 b, .int .i64 c] = some [.int .i64 a, .int .i64 b, .int .i64 c] := by
 unfold Program.keyLits; simp only [Tryz.underlying148, part_cellsR]; rw [if_pos (by exact ⟨rfl, by simp⟩)]; simp only [List.mapM_cons, List.mapM_nil, int_cells8, List.drop_zero, List.drop_succ_cons, List.take_succ_cons, List.take_zero, int_lits m a ha, int_lits m b hb, int_lits m c hc]; rfl
theorem part_keyR (a b c : Int) (ha : (Lit.int .i64 a).wf = true) (hb : (Lit.int .i64 b).wf = true) (hc : (Lit.int .i64 c).wf = true) : ∃ l, keyOf Tryz.prog 148 (partV (a, b, c)) = some l := by
 obtain ⟨m, hm⟩ : ∃ m, Tryz.prog.types.size = m + 1 := ⟨Tryz.prog.types.size - 1, by have := part_size; omega⟩
 unfold keyOf; simp only [Tryz.underlying148]; rw [part_ktR, part_formedR, if_pos (by rfl), hm]; have := part_litsR m a b c ha hb hc; simp only [Value.cells]; rw [this]; exact ⟨_, rfl⟩
theorem MapP.findR {es : Array MapEntry} {ks : List (Int × Int × Int)} (h : MapP es ks) {p : Int × Int × Int} (hp : PartOk p) (w : World) :
 (p ∉ ks ∧ (Instr.findKey 148 (partV p) es.toList).run Tryz.prog w = .ok none w) ∨ (p ∈ ks ∧ ∃ j, (Instr.findKey 148 (partV p) es.toList).run Tryz.prog w = .ok (some (j, .bool true)) w) := by
 obtain ⟨l, hl⟩ := part_keyR p.1 p.2.1 p.2.2 hp.1 hp.2.1 hp.2.2
 rcases partLawR.find w hl es.toList (fun e he => by
  obtain ⟨q, hq, e1, -⟩ := h.mem he; obtain ⟨h1, h2, h3⟩ := h.2 q hq; rw [e1]
  exact part_keyR q.1 q.2.1 q.2.2 h1 h2 h3) with ⟨h1, h2⟩ | ⟨j, e, h1, h2, h3⟩
 · refine .inl ⟨fun hm => ?_, h1⟩; obtain ⟨e, he, e1⟩ := h.has hm; exact h2 e he e1
 · obtain ⟨q, hq, e1, e2⟩ := h.mem (List.mem_of_getElem? h2); have : q = p := partV_inj (e1.symm.trans h3); subst this; exact .inr ⟨hq, j, by rw [h1, e2]⟩
theorem part_checkR {p : Int × Int × Int} (hp : PartOk p) (w : World) (em : Bool) : (Instr.checkKey em 10000 148 (partV p)).run Tryz.prog w = .ok () w := by
 obtain ⟨l, hl⟩ := part_keyR p.1 p.2.1 p.2.2 hp.1 hp.2.1 hp.2.2; exact partLawR.check w em hl
theorem run_mmPR (w : World) : (Instr.makeMap 97 none).run Tryz.prog w = .ok (.map (some w.heap.size)) (w.alloc (.map #[] 0)) := rfl
set_option maxRecDepth 100000 in
theorem run_lookPR {r : Nat} {es : Array MapEntry} {c : Nat} {ks : List (Int × Int × Int)} (hb : w.heap[r]? = some (.map es c)) (h : MapP es ks) {p : Int × Int × Int} (hp : PartOk p) (b : Bool) (hbb : b = decide (p ∈ ks)) :
 (Instr.lookup 97 (.map (some r)) (partV p) false).run Tryz.prog w = .ok (.bool b) w := by
 subst hbb; have hz : (zeroValue 4).run Tryz.prog w = .ok (.bool false) w := rfl; have hc := fun em => part_checkR hp w em
 rcases h.findR hp w with ⟨h1, h2⟩ | ⟨h1, j, h2⟩
 · rw [decide_eq_false h1]; simp [Instr.lookup, run_underlying Tryz.underlying97, MapKept.run_getObj_map hb, hc, h2, Result.andThen, hz]
 · rw [decide_eq_true h1]; simp [Instr.lookup, run_underlying Tryz.underlying97, MapKept.run_getObj_map hb, hc, h2, Result.andThen]
theorem run_updPR {r : Nat} {es : Array MapEntry} {c : Nat} {ks : List (Int × Int × Int)} (hb : w.heap[r]? = some (.map es c)) (h : MapP es ks) {p : Int × Int × Int} (hp : PartOk p) (hn : p ∉ ks) :
 ∃ es' c', (Instr.mapUpdate 97 (.map (some r)) (partV p) (.bool true)).run Tryz.prog w = .ok () { w with heap := w.heap.setIfInBounds r (.map es' c') } ∧ MapP es' (ks ++ [p]) := by
 rcases h.findR hp w with ⟨-, h2⟩ | ⟨h1, -⟩
 · refine ⟨es.push { key := partV p, val := .bool true, born := c }, c + 1, ?_, ?_, ?_⟩
   · have hc := part_checkR hp w false; simp [Instr.mapUpdate, run_underlying Tryz.underlying97, MapKept.run_getObj_map hb, hc, h2, MapKept.run_setObj_map _ hb, Result.andThen]
   · have := h.1; simp only [Array.toList_push, List.map_append, List.map_cons, List.map_nil] at this ⊢; rw [this]
   · intro q hq
     rcases List.mem_append.1 hq with hq | hq
     · exact h.2 q hq
     · rw [List.mem_singleton.1 hq]; exact hp
 · exact absurd h1 hn
abbrev SeenB := List (Int × Int × Int)
abbrev BsR := List C × SeenB × Int
inductive RbI (F : ByteArray → O × Int) (HB : List C) (rc : List C → O → SeenB → BsR → Prop) (a : O) : Nat → Nat → BsR → BsR → Prop
 | nil {i : Nat} {s : BsR} : RbI F HB rc a i 0 s s
 | idle {i k : Nat} {L : List C} {seen : SeenB} {n e : Int} {x : O} {s' : BsR} : getH L a (i : Int) = (x, e) → (x.exec = false ∨ (x.kind ≠ 5 ∧ x.kind ≠ 9)) → RbI F HB rc a (i + 1) k (L, seen, n) s' → RbI F HB rc a i (k + 1) (L, seen, n) s'
 | stay {i k : Nat} {L : List C} {seen : SeenB} {n e : Int} {s : ByteArray} {s' : BsR} : getH L a (i : Int) = (exeN s, e) → s.size ≤ 100 → (∃ X, L = HB ++ X) → ((F s).2 ≠ 0 ∨ (F s).1.kind ≠ 7) → RbI F HB rc a (i + 1) k (L, seen, n) s' → RbI F HB rc a i (k + 1) (L, seen, n) s'
 | bind {i k j : Nat} {L L' : List C} {seen : SeenB} {n e : Int} {s : ByteArray} {s' : BsR} : getH L a (i : Int) = (exeN s, e) → s.size ≤ 100 → (∃ X, L = HB ++ X) → F s = (opO ((j : Int) + 1), 0) → setH L a (i : Int) (opO ((j : Int) + 1)) = (L', 0) → 0 ≤ n → n ≤ 100000 → RbI F HB rc a (i + 1) k (L', seen, n + 1) s' → RbI F HB rc a i (k + 1) (L, seen, n) s'
 | sub {i k : Nat} {L L1 : List C} {seen seen1 : SeenB} {n m e : Int} {x : O} {s' : BsR} : getH L a (i : Int) = (x, e) → x.kind = 9 → x.exec = true → mayH L x = true → rc L x seen (L1, seen1, m) → 0 ≤ n → n ≤ 100000 → 0 ≤ m → m ≤ 100000 → RbI F HB rc a (i + 1) k (L1, seen1, n + m) s' → RbI F HB rc a i (k + 1) (L, seen, n) s'
def RbF (F : ByteArray → O × Int) (HB : List C) : Nat → List C → O → SeenB → BsR → Prop
 | 0 => fun _ _ _ _ => False
 | f + 1 => fun L a seen r => PartOk (partO a) ∧ partO a ∉ seen ∧ 0 ≤ a.len ∧ a.len ≤ 1000 ∧ RbI F HB (RbF F HB f) a 0 a.len.toNat (L, seen ++ [partO a], 0) r
theorem RbI.inv {F : ByteArray → O × Int} {rc : List C → O → SeenB → BsR → Prop} {a : O} {k : Nat} {seen : SeenB} {n : Int} {s' : BsR} (h : RbI F HB rc a i (k + 1) (L, seen, n) s') : ∃ x e, getH L a (i : Int) = (x, e) ∧
 (((x.exec = false ∨ (x.kind ≠ 5 ∧ x.kind ≠ 9)) ∧ RbI F HB rc a (i + 1) k (L, seen, n) s') ∨
  (∃ s, x = exeN s ∧ s.size ≤ 100 ∧ (∃ X, L = HB ++ X) ∧ ((F s).2 ≠ 0 ∨ (F s).1.kind ≠ 7) ∧ RbI F HB rc a (i + 1) k (L, seen, n) s') ∨
  (∃ (s : ByteArray) (j : Nat) (L' : List C), x = exeN s ∧ s.size ≤ 100 ∧ (∃ X, L = HB ++ X) ∧ F s = (opO ((j : Int) + 1), 0) ∧ setH L a (i : Int) (opO ((j : Int) + 1)) = (L', 0) ∧ 0 ≤ n ∧ n ≤ 100000 ∧ RbI F HB rc a (i + 1) k (L', seen, n + 1) s') ∨
  (∃ L1 seen1 m, x.kind = 9 ∧ x.exec = true ∧ mayH L x = true ∧ rc L x seen (L1, seen1, m) ∧ 0 ≤ n ∧ n ≤ 100000 ∧ 0 ≤ m ∧ m ≤ 100000 ∧ RbI F HB rc a (i + 1) k (L1, seen1, n + m) s')) := by
 cases h with
 | idle h1 h2 h3 => exact ⟨_, _, h1, .inl ⟨h2, h3⟩⟩
 | stay h1 h2 h3 h4 h5 => exact ⟨_, _, h1, .inr (.inl ⟨_, rfl, h2, h3, h4, h5⟩)⟩
 | bind h1 h2 h3 h4 h5 h6 h7 h8 => exact ⟨_, _, h1, .inr (.inr (.inl ⟨_, _, _, rfl, h2, h3, h4, h5, h6, h7, h8⟩))⟩
 | sub h1 h2 h3 h4 h5 h6 h7 h8 h9 h10 => exact ⟨_, _, h1, .inr (.inr (.inr ⟨_, _, _, h2, h3, h4, h5, h6, h7, h8, h9, h10⟩))⟩
def RBdP (w0 : World) (gp cp mp : Nat) (M : List (Nat × List C)) (K : List (Nat × Obj)) (r : BsR) (e : Ending) (w' : World) : Prop :=
 ∃ es' c', e = .returned (.int .i64 r.2.2) ∧ MapP es' r.2.1 ∧ RScp w0 w' gp M ((mp, .map es' c') :: K) r.1 cp (dsQ 2)
section
variable {w0 w w' : World} {gp sp : Nat} {M : List (Nat × List C)} {K : List (Nat × Obj)} {L L' : List C} {ds : List O}
theorem RScp.putM {b : Nat} {o : Obj} (S : RScp w0 w gp M ((b, o) :: K) L sp ds) (o' : Obj) : RScp w0 { w with heap := w.heap.setIfInBounds b o' } gp M ((b, o') :: K) L sp ds := by
 obtain ⟨g, cap, cur, h1, h2, h3, h4, E, H, A⟩ := S; refine ⟨g, cap, cur, h1, h2, h3, h4, E, H, ?_⟩
 have A1 := (A.perm (K' := (b, o) :: (E ++ ((g, .cells cur 39) :: (sp, .cells #[ptr gp, .slice (some ⟨g, 0, none⟩) ds.length cap] 74) :: K))) (by
  classical refine List.perm_iff_count.2 fun z => ?_
  simp only [List.count_append, List.count_cons]
  omega)).putM8 o'
 exact A1.perm (by
  classical refine List.perm_iff_count.2 fun z => ?_
  simp only [List.count_append, List.count_cons]
  omega)
theorem rs_may (o : O) {b : Bool} (hr : mayH L o = b) (T : RS [] w0 gp M K L w) : Calls Tryz.prog 50 #[ptr gp, o.val] w fun r w' => r = .returned (.bool b) ∧ RS [] w0 gp M K L w' := T.ask fun _ H A => rhmay_any H A (fun _q hq => List.mem_append_left _ hq) o hr
end
set_option maxRecDepth 100000 in
set_option maxHeartbeats 16000000 in
theorem rbind_any (Q : List DQ) (hQ1 : OKQ Q) (hQ2 : 2 ≤ Q.length) {w0 : World} {M : List (Nat × List C)} {gp cp mp : Nat} : ∀ (f : Nat) (L : List C) (a : O) (seen : SeenB) (r : BsR), RbF (lookF Q) (hQ Q) f L a seen r → ∀ (w : World) (K : List (Nat × Obj)) (es : Array MapEntry) (c : Nat), MapP es seen → RScp w0 w gp M ((mp, .map es c) :: K) L cp (dsQ 2) →
 Calls Tryz.prog 51 #[ptr gp, ptr cp, a.val, .map (some mp)] w (RBdP w0 gp cp mp M K r) := by
 intro f
 induction f with
 | zero => intro L a seen r h; exact h.elim
 | succ f ih =>
 intro L a seen r h w K es c hM S; obtain ⟨hpo, hnm, ha0, ha1, hI⟩ := h; have IH := hid' ih; have HQ1 := hid' hQ1; obtain ⟨ak, ax, an, ap, al, as'⟩ := a; simp only at ha0 ha1; obtain ⟨q, rfl⟩ := Int.eq_ofNat_of_zero_le ha0; simp only [Int.toNat_natCast] at hI; have S1 := S.alloc (Obj.cells #[.int .i64 ak, .bool ax, .int .i64 an, .int .i64 ap, .int .i64 q, .string as'] 39); have HRI := hid' hI; clear ih S hI hQ1; go_enter Tryz.func51, Tryz.ntmps51
 go_upto_region 1 with (fail)
 generalize hg : w.heap.size = b6 at *; generalize hW : w.alloc _ = w1 at *; clear hW hg; have S2 := S1.alloc (Obj.cells #[.int .i64 an, .int .i64 ap, .int .i64 q] 148)
 (try clear Ra); (try clear ya); (try clear Za)
 have Ra := cells_of (S1.box _ m0); have ya := blk_lt (S1.box _ m0)
 (try simp only at Ra ya)
 generalize hg : w1.heap.size = b9 at *
 go_upto_region 2 with (fail)
 generalize hW : w1.alloc _ = w2 at *; clear hW hg S1 Ra ya; have hbm := S2.box (mp, .map es c) (by simp); have HLK := run_lookPR hbm hM hpo false (decide_eq_false hnm).symm; simp only [partV] at HLK
 (try clear Rp); (try clear yp); (try clear Zp)
 have Rp := cells_of (S2.box _ m0); have yp := blk_lt (S2.box _ m0)
 (try simp only at Rp yp)
 go_upto_region 4 with (fail)
 clear HLK; obtain ⟨es', c', HU, hM'⟩ := run_updPR hbm hM hpo hnm; simp only [partV] at HU
 have S3 := ((S2.perm (K' := (mp, .map es c) :: (b9, Obj.cells #[.int .i64 an, .int .i64 ap, .int .i64 q] 148) :: (b6, Obj.cells #[.int .i64 ak, .bool ax, .int .i64 an, .int .i64 ap, .int .i64 q, .string as'] 39) :: K) (by
  classical refine List.perm_iff_count.2 fun z => ?_
  simp only [List.count_cons]
  omega)).putM (.map es' c'))
 go_upto_region 5 with (fail)
 generalize hW : ({ w2 with heap := w2.heap.setIfInBounds mp (.map es' c') } : World) = w3 at *; clear hW HU S2 Rp yp hbm hM; have S4 := S3.keep (K' := (mp, .map es' c') :: (b6, Obj.cells #[.int .i64 ak, .bool ax, .int .i64 an, .int .i64 ap, .int .i64 q, .string as'] 39) :: K) ((List.sublist_cons_self _ _).cons_cons _); clear S3; have HMM := hid' hM'; clear hM' hpo hnm; have q1000 : (q : Int) ≤ 1000 := ha1; go_wp2_with fail
 go_loopw [10, 11] (fun nv iv wr => ∃ (i k : Nat) (Lc : List C) (sc : SeenB) (nc : Int) (ec : Array MapEntry) (cc : Nat), i + k = q ∧ nv = .int .i64 nc ∧ iv = .int .i64 i ∧ Hid (RbI (lookF Q) (hQ Q) (RbF (lookF Q) (hQ Q) f) ⟨ak, ax, an, ap, q, as'⟩ i k (Lc, sc, nc) r) ∧ Hid (MapP ec sc) ∧ RScp w0 wr gp M ((mp, .map ec cc) :: (b6, Obj.cells #[.int .i64 ak, .bool ax, .int .i64 an, .int .i64 ap, .int .i64 q, .string as'] 39) :: K) Lc cp (dsQ 2)) (fun _ iv _ => q - (intOf iv).toNat)
 case atStart => exact ⟨0, q, L, _, 0, es', c', Nat.zero_add _, rfl, rfl, HRI, HMM, S4⟩
 case round =>
 obtain ⟨i, k, Lc, sc, nc, ec, cc, hik, rfl, rfl, HI, HM, S5⟩ := hrel; clear S4 HRI HMM
 (try clear Ra); (try clear ya); (try clear Za)
 have Ra := cells_of (S5.box _ m1); have ya := blk_lt (S5.box _ m1)
 (try simp only at Ra ya)
 cases k with
 | zero =>
  obtain rfl : i = q := by omega
  have hlt : ¬ (i : Int) < i := by omega
  cases HI.out
  have HA := hid' (S5.keep (K' := (mp, .map ec cc) :: K) ((List.sublist_cons_self _ _).cons_cons _)); clear S5; go_wp2_with fail
  go_ret; exact ⟨ec, cc, rfl, HM.out, HA.out⟩
 | succ k =>
  have dl : (i : Int) < q := by omega
  have di : (0 : Int) ≤ i := by omega
  have vi := IntWalk.i64_in ((i : Int) + 1) (by omega); obtain ⟨x, e, hget, hcase⟩ := HI.out.inv; have HG := hid' (S5.ask (fun a b T => rs_get ⟨ak, ax, an, ap, q, as'⟩ (i : Int) hget T)); obtain ⟨xk, xx, xn, xp, xl, xs⟩ := x; have HC := hid' hcase; have HS5 := hid' S5; clear hget hcase S5 HI
  go_upto_region 9 with (fail)
  go_wp2_with fail
  refine HG.out.mono ?_; rintro rr w4 ⟨rfl, S6⟩; clear HG Ra ya HS5; have S7 := S6.alloc (Obj.cells #[.int .i64 xk, .bool xx, .int .i64 xn, .int .i64 xp, .int .i64 xl, .string xs] 39); generalize hg : w4.heap.size = b12 at *
  go_upto_region 10 with (fail)
  generalize hW : w4.alloc _ = w5 at *; clear hW hg S6
  (try clear Rx); (try clear yx); (try clear Zx)
  have Rx := cells_of (S7.box _ m0); have yx := blk_lt (S7.box _ m0)
  (try clear Ra); (try clear ya); (try clear Za)
  have Ra := cells_of (S7.box _ m2); have ya := blk_lt (S7.box _ m2)
  (try simp only at Rx yx Ra ya)
  have hcase := HC.out; clear HC; have HK : Hid (∀ (W : World) (b : Nat) (o : Obj) (Lx : List C), RScp w0 W gp M ((b, o) :: (mp, .map ec cc) :: (b6, Obj.cells #[.int .i64 ak, .bool ax, .int .i64 an, .int .i64 ap, .int .i64 q, .string as'] 39) :: K) Lx cp (dsQ 2) → RScp w0 W gp M ((mp, .map ec cc) :: (b6, Obj.cells #[.int .i64 ak, .bool ax, .int .i64 an, .int .i64 ap, .int .i64 q, .string as'] 39) :: K) Lx cp (dsQ 2)) := hid' (fun W b o Lx S => S.keep (List.sublist_cons_self _ _))
  rcases hcase with ⟨hor, hnx⟩ | ⟨s, hx, hs, hX, hne, hnx⟩ | ⟨s, j, L2, hx, hs, hX, hFs, hset, hn0, hn9, hnx⟩ | ⟨L1, sn1, m, hk9, hxe, hmx, hrc, hn0, hn9, hm0, hm9, hnx⟩
  · have HNX := hid' hnx; clear hnx
    rcases hor with rfl | ⟨h5, h9⟩
    · by_cases k5 : xk = 5
      · subst k5; have HS := hid' (HK.out _ _ _ _ S7); clear S7; go_wp2_with fail
        go_roundw
        case rel => exact ⟨i + 1, k, Lc, sc, nc, ec, cc, by omega, rfl, by go_num, HNX, HM, HS.out⟩
        case measure => simp [intOf]; omega
      · by_cases k9 : xk = 9
        · subst k9; have HS := hid' (HK.out _ _ _ _ S7); clear S7; go_wp2_with fail
          go_roundw
          case rel => exact ⟨i + 1, k, Lc, sc, nc, ec, cc, by omega, rfl, by go_num, HNX, HM, HS.out⟩
          case measure => simp [intOf]; omega
        · have k5' : decide (xk = 5) = false := by simpa using k5
          have HS := hid' (HK.out _ _ _ _ S7); clear S7; go_wp2_with fail
          go_roundw
          case rel => exact ⟨i + 1, k, Lc, sc, nc, ec, cc, by omega, rfl, by go_num, HNX, HM, HS.out⟩
          case measure => simp [intOf]; omega
    · have HS := hid' (HK.out _ _ _ _ S7); clear S7; go_wp2_with fail
      go_roundw
      case rel => exact ⟨i + 1, k, Lc, sc, nc, ec, cc, by omega, rfl, by go_num, HNX, HM, HS.out⟩
      case measure => simp [intOf]; omega
  · have HNX := hid' hnx; clear hnx; simp only [O.mk.injEq] at hx; obtain ⟨rfl, rfl, rfl, rfl, rfl, rfl⟩ := hx; obtain ⟨X, rfl⟩ := hX; have HF : Hid (Calls Tryz.prog 83 #[ptr cp, O.val ⟨5, true, 0, 0, 0, xs⟩] w5 fun rr w' => (∃ d : O, rr = .returned (.tuple #[(lookF Q xs).1.val, d.val, .int .i64 (lookF Q xs).2])) ∧ RScp w0 w' gp M ((b12, Obj.cells #[.int .i64 5, .bool true, .int .i64 0, .int .i64 0, .int .i64 0, .string xs] 39) :: (mp, .map ec cc) :: (b6, Obj.cells #[.int .i64 ak, .bool ax, .int .i64 an, .int .i64 ap, .int .i64 q, .string as'] 39) :: K) (hQ Q ++ X) cp (dsQ 2)) := hid' (rfind16_any Q HQ1.out X 2 hQ2 (by decide) S7 true xs hs); generalize lookF Q xs = R at *; obtain ⟨v, ev⟩ := R; simp only at hne HF; obtain ⟨vk, vx, vn, vp, vl, vs⟩ := v; have HS7 := hid' S7; clear S7; go_wp2_with fail
    refine HF.out.mono ?_; rintro rr w6 ⟨⟨d, rfl⟩, S8⟩; obtain ⟨dk, dx, dn, dp, dl, dS⟩ := d; clear HF HS7 Rx yx Ra ya; have S9 := (S8.alloc (Obj.cells #[.int .i64 vk, .bool vx, .int .i64 vn, .int .i64 vp, .int .i64 vl, .string vs] 39)).alloc (Obj.cells #[.int .i64 dk, .bool dx, .int .i64 dn, .int .i64 dp, .int .i64 dl, .string dS] 39); simp only [World.size_alloc] at S9; generalize hg : w6.heap.size = b14 at *
    go_upto_region 12 with (fail)
    generalize hW : World.alloc _ _ = w7 at *; clear hW hg S8
    (try clear Rv); (try clear yv); (try clear Zv)
    have Rv := cells_of (S9.box _ m1); have yv := blk_lt (S9.box _ m1)
    (try simp only at Rv yv)
    have HS := hid' (HK.out _ _ _ _ (S9.keep ((List.sublist_cons_self _ _).trans (List.sublist_cons_self _ _)))); clear S9
    by_cases he : ev = 0
    · have hv7 : ¬ vk = 7 := by
       rcases hne with h | h
       · exact absurd he h
       · exact h
      subst he; go_wp2_with fail
      go_roundw
      case rel => exact ⟨i + 1, k, _, sc, nc, ec, cc, by omega, rfl, by go_num, HNX, HM, HS.out⟩
      case measure => simp [intOf]; omega
    · go_wp2_with fail
      go_roundw
      case rel => exact ⟨i + 1, k, _, sc, nc, ec, cc, by omega, rfl, by go_num, HNX, HM, HS.out⟩
      case measure => simp [intOf]; omega
  · have HNX := hid' hnx; clear hnx; simp only [O.mk.injEq] at hx; obtain ⟨rfl, rfl, rfl, rfl, rfl, rfl⟩ := hx; obtain ⟨X, rfl⟩ := hX; have HF : Hid (Calls Tryz.prog 83 #[ptr cp, O.val ⟨5, true, 0, 0, 0, xs⟩] w5 fun rr w' => (∃ d : O, rr = .returned (.tuple #[(lookF Q xs).1.val, d.val, .int .i64 (lookF Q xs).2])) ∧ RScp w0 w' gp M ((b12, Obj.cells #[.int .i64 5, .bool true, .int .i64 0, .int .i64 0, .int .i64 0, .string xs] 39) :: (mp, .map ec cc) :: (b6, Obj.cells #[.int .i64 ak, .bool ax, .int .i64 an, .int .i64 ap, .int .i64 q, .string as'] 39) :: K) (hQ Q ++ X) cp (dsQ 2)) := hid' (rfind16_any Q HQ1.out X 2 hQ2 (by decide) S7 true xs hs); rw [hFs] at HF; simp only at HF; have HSE := hid' (fun W K' (S : RScp w0 W gp M K' (hQ Q ++ X) cp (dsQ 2)) => S.ask (fun a b T => rs_setN ⟨ak, ax, an, ap, q, as'⟩ (i : Int) (opO ((j : Int) + 1)) (.inr (by show ¬ (7 : Int) = 3; decide)) hset T)); have vnc := IntWalk.i64_in (nc + 1) (by omega); have HS7 := hid' S7; clear S7 hFs hset; go_wp2_with fail
    refine HF.out.mono ?_; rintro rr w6 ⟨⟨d, rfl⟩, S8⟩; obtain ⟨dk, dx, dn, dp, dl, dS⟩ := d; clear HF HS7 Rx yx Ra ya; have S9 := (S8.alloc (Obj.cells #[.int .i64 7, .bool true, .int .i64 ((j : Int) + 1), .int .i64 0, .int .i64 0, .string ⟨#[]⟩] 39)).alloc (Obj.cells #[.int .i64 dk, .bool dx, .int .i64 dn, .int .i64 dp, .int .i64 dl, .string dS] 39); simp only [World.size_alloc] at S9; generalize hg : w6.heap.size = b14 at *
    go_upto_region 12 with (fail)
    generalize hW : World.alloc _ _ = w7 at *; clear hW hg S8
    (try clear Rv); (try clear yv); (try clear Zv)
    have Rv := cells_of (S9.box _ m1); have yv := blk_lt (S9.box _ m1)
    (try clear Ra); (try clear ya); (try clear Za)
    have Ra := cells_of (S9.box _ m4); have ya := blk_lt (S9.box _ m4)
    (try simp only at Rv yv Ra ya)
    have HCS := hid' (HSE.out _ _ S9); have HS9 := hid' S9; clear S9 HSE; go_wp2_with fail
    refine HCS.out.mono ?_; rintro rr w8 ⟨rfl, S10⟩; have HS := hid' (HK.out _ _ _ _ (S10.keep ((List.sublist_cons_self _ _).trans (List.sublist_cons_self _ _)))); clear S10 HCS HS9 Rv yv Ra ya; go_wp2_with fail
    go_roundw
    case rel => exact ⟨i + 1, k, L2, sc, nc + 1, ec, cc, by omega, rfl, by go_num, HNX, HM, HS.out⟩
    case measure => simp [intOf]; omega
  · subst hk9 hxe; have HNX := hid' hnx; have HMY := hid' (fun W K' (S : RScp w0 W gp M K' Lc cp (dsQ 2)) => S.ask (fun a b T => rs_may ⟨9, true, xn, xp, xl, xs⟩ hmx T)); have HRC := hid' (fun W K' (S : RScp w0 W gp M ((mp, .map ec cc) :: K') Lc cp (dsQ 2)) => IH.out Lc ⟨9, true, xn, xp, xl, xs⟩ sc (L1, sn1, m) hrc W K' ec cc HM.out S); have vnc := IntWalk.i64_in (nc + m) (by omega); clear hnx hrc hmx; go_wp2_with fail
    refine (HMY.out _ _ S7).mono ?_; rintro rr w6 ⟨rfl, S8⟩; clear S7 HMY Rx yx Ra ya
    (try clear Rx); (try clear yx); (try clear Zx)
    have Rx := cells_of (S8.box _ m0); have yx := blk_lt (S8.box _ m0)
    (try simp only at Rx yx)
    have S9 := S8.perm (K' := (mp, .map ec cc) :: (b12, Obj.cells #[.int .i64 9, .bool true, .int .i64 xn, .int .i64 xp, .int .i64 xl, .string xs] 39) :: (b6, Obj.cells #[.int .i64 ak, .bool ax, .int .i64 an, .int .i64 ap, .int .i64 q, .string as'] 39) :: K) (List.Perm.swap _ _ _); clear S8; have HCS := hid' (HRC.out _ _ S9); have HS9 := hid' S9; clear S9 HRC; go_wp2_with fail
    refine HCS.out.mono ?_; rintro rr w7 ⟨es2, c2, rfl, hM2, S10⟩; have HS := hid' (S10.keep (K' := (mp, .map es2 c2) :: (b6, Obj.cells #[.int .i64 ak, .bool ax, .int .i64 an, .int .i64 ap, .int .i64 q, .string as'] 39) :: K) ((List.sublist_cons_self _ _).cons_cons _)); have HM2 := hid' hM2; clear S10 HCS HS9 Rx yx hM2; go_wp2_with fail
    go_roundw
    case rel => exact ⟨i + 1, k, L1, sn1, nc + m, es2, c2, by omega, rfl, by go_num, HNX, HM2, HS.out⟩
    case measure => simp [intOf]; omega
set_option maxRecDepth 100000 in
set_option maxHeartbeats 4000000 in
theorem rBind_any (Q : List DQ) (hQ1 : OKQ Q) (hQ2 : 2 ≤ Q.length) {w0 w : World} {M : List (Nat × List C)} {K : List (Nat × Obj)} {gp cp f : Nat} {L L' : List C} {a : O} {seen' : SeenB} {n : Int} (S : RScp w0 w gp M K L cp (dsQ 2)) (h9 : a.kind = 9) (hm : mayH L a = true) (h : RbF (lookF Q) (hQ Q) f L a [] (L', seen', n)) :
 Calls Tryz.prog 17 #[ptr gp, ptr cp, a.val] w fun e w' => e = .returned (.tuple #[.int .i64 n, .int .i64 0]) ∧ RScp w0 w' gp M K L' cp (dsQ 2) := by
 have HMY := hid' (fun W K' (S : RScp w0 W gp M K' L cp (dsQ 2)) => S.ask (fun x b T => rs_may a hm T)); have HB := hid' (fun W K' mp es c (S : RScp w0 W gp M ((mp, .map es c) :: K') L cp (dsQ 2)) hM => rbind_any Q hQ1 hQ2 (mp := mp) f L a [] (L', seen', n) h W K' es c hM S); obtain ⟨ak, ax, an, ap, al, as'⟩ := a; simp only at h9; subst h9; have S1 := S.alloc (Obj.cells #[.int .i64 9, .bool ax, .int .i64 an, .int .i64 ap, .int .i64 al, .string as'] 39); have hMM := run_mmPR; clear S hm h hQ1 hQ2; go_enter Tryz.func17, Tryz.ntmps17
 go_upto_region 1 with (fail)
 generalize hg : w.heap.size = b5 at *; generalize hW : w.alloc _ = w1 at *; clear hW hg
 (try clear Ro); (try clear yo); (try clear Zo)
 have Ro := cells_of (S1.box _ m0); have yo := blk_lt (S1.box _ m0)
 (try simp only at Ro yo)
 go_wp2_with fail
 refine (HMY.out _ _ S1).mono ?_; rintro rr w2 ⟨rfl, S2⟩; clear Ro yo HMY S1
 (try clear Ro); (try clear yo); (try clear Zo)
 have Ro := cells_of (S2.box _ m0); have yo := blk_lt (S2.box _ m0)
 (try simp only at Ro yo)
 have S3 := S2.alloc (.map #[] 0)
 have M0 : MapP #[] [] := ⟨rfl, by simp⟩
 have HCS := hid' (HB.out _ _ _ _ _ S3 M0); have HS2 := hid' S2; clear S2 HB; go_wp2_with fail
 refine HCS.out.mono ?_; rintro rr w3 ⟨es, c, rfl, -, S4⟩; have HS := hid' (S4.keep (K' := K) ((List.sublist_cons_self _ _).trans (List.sublist_cons_self _ _))); clear S3 S4 HCS HS2 Ro yo; go_wp2_with fail
 refine bodyPost_ret (v := .tuple #[.int .i64 n, .int .i64 0]) (by simp [results, Tryz.results17, go_sem]) rfl ⟨rfl, HS.out⟩
end
theorem get_aR {N : Nat} {is : List O} (hc : L[N]? = some (rowC is)) (hN : N ≤ 40000) (hs : is.length ≤ 40000) (z : Int) (hz : z = is.length) (i : Nat) (hi : i < is.length) : getH L (arX (N : Nat) z) i = (is.getD i O.nil, 0) := by
 unfold getH
 have hf : findE L (arX (N : Nat) z) = 0 := by simp [findE, may_arX hc hN hs z hz, held]
 rw [hf]; simp only [ne_eq, not_true_eq_false, if_false, Int.toNat_natCast, hc, lenOf, atOf]
 have e9 : (9 : Int) = 10 ↔ False := by decide
 simp only [e9, if_false, if_neg (show ¬ ((i : Int) < 0 ∨ z ≤ i) by omega), Bool.false_eq_true, Int.zero_add, Int.toNat_natCast]
theorem inI_iff : inI lo hi i = true ↔ lo ≤ i ∧ i < hi := by simp [inI]
theorem mapP_more (F : ByteArray → O × Int) {L : List C} {p p' : Nat → Bool} (h : ∀ i c, L[i]? = some c → p i = p' i ∨ c.items = []) : mapP F p L = mapP F p' L := by
 refine List.ext_getElem? fun i => ?_; rw [mapP_at, mapP_at]
 cases hc : L[i]? with
 | none => rfl
 | some c =>
  rcases h i c hc with e | e
  · rw [e]
  · obtain ⟨a1, a2, a3, a4, a5⟩ := c; simp only at e; subst e; simp only [Option.map_some]
    congr 1
    have : bindC F ⟨a1, a2, a3, [], a5⟩ = ⟨a1, a2, a3, [], a5⟩ := rfl; rw [this]
    split <;> split <;> rfl
theorem cntP_more (F : ByteArray → O × Int) {L L' : List C} {p p' : Nat → Bool} (hl : L.length = L'.length) (h : ∀ i, i < L.length → cntAt F p L i = cntAt F p' L' i) : cntP F p L = cntP F p' L' := by
 unfold cntP; rw [← hl]; exact sum_same _ _ _ h
theorem cnt_text (F : ByteArray → O × Int) {p : Nat → Bool} {L : List C} {i : Nat} {c : C} (hc : L[i]? = some c) (h : c.items = []) : cntAt F p L i = 0 := by
 unfold cntAt; split
 · rw [hc]; simp only [cntC, h]; rfl
 · rfl
theorem cntP_split (F : ByteArray → O × Int) (L : List C) {lo mid hi : Nat} (h1 : lo ≤ mid) (h2 : mid ≤ hi) : cntP F (inI lo hi) L = cntP F (inI lo mid) L + cntP F (inI mid hi) L := by
 unfold cntP; refine sum_add _ _ _ _ fun i _ => ?_; unfold cntAt
 by_cases c1 : lo ≤ i ∧ i < mid
 · rw [if_pos (inI_iff.2 (by omega)), if_pos (inI_iff.2 c1), if_neg (fun h => by have := inI_iff.1 h; omega)]; omega
 · rw [if_neg (fun h => c1 (inI_iff.1 h))]
   by_cases c2 : mid ≤ i ∧ i < hi
   · rw [if_pos (inI_iff.2 (by omega)), if_pos (inI_iff.2 c2)]; omega
   · rw [if_neg (fun h => c2 (by have := inI_iff.1 h; omega)), if_neg (fun h => c2 (inI_iff.1 h))]
theorem cntP_empty (F : ByteArray → O × Int) (L : List C) (lo : Nat) : cntP F (inI lo lo) L = 0 := by
 have h : cntP F (inI lo lo) L = cntP F (allP []) L := cntP_more F rfl fun i _ => by
  unfold cntAt; rw [if_neg (fun h => by have := inI_iff.1 h; omega), if_neg (by simp [allP])]
 rw [h, cntP_nil]
def LcB (F : ByteArray → O × Int) (L : List C) (lo mid m : Nat) (us : List O) : List C := (mapP F (inI lo mid) L).set m (rowC us)
theorem LcB_at (F : ByteArray → O × Int) (L : List C) (lo mid m : Nat) (us : List O) (i : Nat) (hi : i ≠ m) : (LcB F L lo mid m us)[i]? = (L[i]?).map fun c => if inI lo mid i = true then bindC F c else c := by
 unfold LcB; rw [List.getElem?_set_ne (fun e => hi e.symm), mapP_at]
theorem LcB_m (F : ByteArray → O × Int) (L : List C) (lo mid m : Nat) (us : List O) (hm : m < L.length) : (LcB F L lo mid m us)[m]? = some (rowC us) := by
 unfold LcB; rw [List.getElem?_set_self (by rw [mapP_length]; exact hm)]
theorem LcB_length (F : ByteArray → O × Int) (L : List C) (lo mid m : Nat) (us : List O) : (LcB F L lo mid m us).length = L.length := by unfold LcB; rw [List.length_set, mapP_length]
theorem LcB_base (hB : BaseB HB L) (F : ByteArray → O × Int) {lo mid m : Nat} (h1 : HB.length ≤ lo) (h2 : HB.length ≤ m) (us : List O) : BaseB HB (LcB F L lo mid m us) :=
 (hB.map F fun i hi => by
  cases h : inI lo mid i with
  | false => rfl
  | true => have := inI_iff.1 h; omega).set h2 _
theorem LcB_eq (F : ByteArray → O × Int) {L L' : List C} {lo mid m : Nat} {us : List O} (_hl : L'.length = L.length) (hm : m < L.length) (h1 : L'[m]? = some (rowC us)) (h2 : ∀ i, i ≠ m → L'[i]? = (L[i]?).map fun c => if inI lo mid i = true then bindC F c else c) : L' = LcB F L lo mid m us := by
 refine List.ext_getElem? fun i => ?_
 by_cases c : i = m
 · subst c; rw [h1, LcB_m F L lo mid i us hm]
 · rw [h2 i c, LcB_at F L lo mid m us i c]
def SeenI (seen' seen : SeenB) (lo hi : Nat) : Prop := ∀ q ∈ seen', q ∈ seen ∨ ∃ i : Nat, q.1 = (i : Int) ∧ lo ≤ i ∧ i < hi
def FreeI (seen : SeenB) (lo hi : Nat) : Prop := ∀ q ∈ seen, ∀ i : Nat, q.1 = (i : Int) → ¬ (lo ≤ i ∧ i < hi)
theorem rb_items {F : ByteArray → O × Int} (hF : GoodN F) {HB L : List C} (hB : BaseB HB L) (hl2 : HB.length ≤ L.length) (hL9 : L.length ≤ 2000) {f d lo m : Nat} (hlo : HB.length ≤ lo) (hm2 : HB.length ≤ m) (hm : m < L.length) (hsm : m - lo ≤ 800) (N : Nat) (hN : N ≤ 100)
 (ih : ∀ (L : List C) (lo hi : Nat) (a : O) (seen : SeenB), TreeB L d lo a hi → a.kind = 9 → BaseB HB L → HB.length ≤ lo → HB.length ≤ L.length → hi ≤ L.length → L.length ≤ 2000 → hi - lo ≤ 801 → FreeI seen lo hi → ∃ seen', RbF F HB f L a seen (mapP F (inI lo hi) L, seen', ((cntP F (inI lo hi) L : Nat) : Int)) ∧ SeenI seen' seen lo hi ∧ cntP F (inI lo hi) L ≤ 100 * (hi - lo))
 {mid : Nat} {xs : List O} (hf : ForB (TreeB L d) mid xs m) : lo ≤ mid → ∀ (pre : List O) (seen : SeenB), pre.length + xs.length = N → FreeI seen mid m → cntP F (inI lo mid) L ≤ 100 * (mid - lo) →
  ∃ seen', RbI F HB (RbF F HB f) (arX (m : Nat) (N : Nat)) pre.length xs.length (LcB F L lo mid m (pre.map (bindI F) ++ xs), seen, (((pre.map (cntI F)).sum + cntP F (inI lo mid) L : Nat) : Int)) (LcB F L lo m m ((pre ++ xs).map (bindI F)), seen', ((((pre ++ xs).map (cntI F)).sum + cntP F (inI lo m) L : Nat) : Int)) ∧ SeenI seen' seen mid m ∧ cntP F (inI lo m) L ≤ 100 * (m - lo) := by
 induction hf with
 | @nil mid =>
  intro hlm pre seen _ hfr hc; refine ⟨seen, ?_, fun q hq => .inl hq, hc⟩; rw [List.append_nil, List.append_nil]; exact .nil
 | @cons mid mid2 m x xs h1 h2 ihf =>
  intro hlm pre seen hpn hfr hc; have hle1 := TreeB.le h1; have hle2 := h2.le (fun lo o hi h => TreeB.le h); have ihf := ihf hm2 hm hsm (by omega); simp only [List.length_cons] at hpn; have hcl := cnt_le F pre
  have hx1 : cntI F x ≤ 1 := by unfold cntI; split <;> omega
  have hget : getH (LcB F L lo mid m (pre.map (bindI F) ++ x :: xs)) (arX (m : Nat) (N : Nat)) (pre.length : Int) = (x, 0) := by
   rw [get_aR (LcB_m F L lo mid m _ hm) (by omega) (by simp; omega) (N : Int) (by simp; omega) pre.length (by simp)]; rw [List.getD_eq_getElem?_getD, List.getElem?_append_right (by simp)]; simp
  have hlc := LcB_length F L lo mid m (pre.map (bindI F) ++ x :: xs); have hbs := LcB_base hB F (mid := mid) hlo hm2 (pre.map (bindI F) ++ x :: xs)
  have e1 : (pre ++ [x]).map (bindI F) ++ xs = pre.map (bindI F) ++ bindI F x :: xs := by simp
  have e2 : pre ++ x :: xs = (pre ++ [x]) ++ xs := by simp
  have hpl : (pre ++ [x]).length = pre.length + 1 := by simp
  have text : (∀ i, mid ≤ i → i < mid2 → ∃ c, L[i]? = some c ∧ c.items = []) → (∀ us, LcB F L lo mid2 m us = LcB F L lo mid m us) ∧ cntP F (inI lo mid2) L = cntP F (inI lo mid) L := fun hv => by
   constructor
   · intro us; unfold LcB
     rw [mapP_more F (p' := inI lo mid) fun i c hc => by
      by_cases c1 : mid ≤ i ∧ i < mid2
      · obtain ⟨c', h1, h2⟩ := hv i c1.1 c1.2; rw [hc] at h1; simp only [Option.some.injEq] at h1; subst h1; exact .inr h2
      · refine .inl ?_; rw [Bool.eq_iff_iff, inI_iff, inI_iff]
        omega]
   · rw [cntP_split F L hlm hle1]
     have : cntP F (inI mid mid2) L = cntP F (inI mid mid) L := cntP_more F rfl fun i _ => by
      by_cases c1 : mid ≤ i ∧ i < mid2
      · obtain ⟨c', h1, h2⟩ := hv i c1.1 c1.2; rw [cnt_text F h1 h2, cnt_text F h1 h2]
      · unfold cntAt; rw [if_neg (fun h => c1 (inI_iff.1 h)), if_neg (fun h => by have := inI_iff.1 h; omega)]
     rw [this, cntP_empty]; omega
  have other : ∀ (hv : ∀ i, mid ≤ i → i < mid2 → ∃ c, L[i]? = some c ∧ c.items = []) {P : Prop}, (∀ seen', RbI F HB (RbF F HB f) (arX (m : Nat) (N : Nat)) (pre.length + 1) xs.length (LcB F L lo mid m (pre.map (bindI F) ++ bindI F x :: xs), seen, (((pre.map (cntI F)).sum + cntP F (inI lo mid) L : Nat) : Int) + ((cntI F x : Nat) : Int)) (LcB F L lo m m ((pre ++ x :: xs).map (bindI F)), seen', ((((pre ++ x :: xs).map (cntI F)).sum + cntP F (inI lo m) L : Nat) : Int)) → SeenI seen' seen mid m → cntP F (inI lo m) L ≤ 100 * (m - lo) → P) → P := fun hv P hP => by
   obtain ⟨t1, t2⟩ := text hv; obtain ⟨seen', g1, g2, g3⟩ := ihf (pre ++ [x]) seen (by rw [hpl]; omega) (fun q hq i hi hh => hfr q hq i hi (by omega)) (by rw [t2]; omega); rw [t1, t2, e1, hpl] at g1; rw [← e2] at g1; refine hP seen' ?_ (fun q hq => (g2 q hq).imp id fun ⟨i, h1, h2, h3⟩ => ⟨i, h1, by omega, h3⟩) g3
   have e3 : (((pre.map (cntI F)).sum + cntP F (inI lo mid) L : Nat) : Int) + ((cntI F x : Nat) : Int) = ((((pre ++ [x]).map (cntI F)).sum + cntP F (inI lo mid) L : Nat) : Int) := by
    simp only [List.map_append, List.map_cons, List.map_nil, List.sum_append, List.sum_cons, List.sum_nil]; omega
   rw [e3]; exact g1
  rw [show (x :: xs).length = xs.length + 1 from rfl]
  cases item_of hF h1 with
  | idle hx hh h9' _ hv =>
   refine other hv fun seen' g1 g2 g3 => ⟨seen', .idle hget (.inl hx) ?_, g2, g3⟩
   have hb : bindI F x = x := by unfold bindI; rw [hh]; rfl
   have hc0 : cntI F x = 0 := by unfold cntI; rw [hh]; rfl
   rw [hb, hc0] at g1
   simpa using g1
  | op hx h9' h5 hh he =>
   refine other (fun i i1 i2 => absurd i2 (by omega)) fun seen' g1 g2 g3 => ⟨seen', .idle hget (.inr ⟨h5, h9'⟩) ?_, g2, g3⟩
   have hb : bindI F x = x := by unfold bindI; rw [hh]; rfl
   have hc0 : cntI F x = 0 := by unfold cntI; rw [hh]; rfl
   rw [hb, hc0] at g1
   simpa using g1
  | @stay s hs hor hh he =>
   refine other (fun i i1 i2 => absurd i2 (by omega)) fun seen' g1 g2 g3 => ⟨seen', .stay hget hs (hbs.ex (by rw [hlc]; exact hl2)) hor ?_, g2, g3⟩
   have hb : bindI F (exeN s) = exeN s := by unfold bindI; rw [hh]; rfl
   have hc0 : cntI F (exeN s) = 0 := by unfold cntI; rw [hh]; rfl
   rw [hb, hc0] at g1
   simpa using g1
  | @bind s i hs hi' he hh hee =>
   refine other (fun i i1 i2 => absurd i2 (by omega)) fun seen' g1 g2 g3 => ⟨seen', .bind (L' := LcB F L lo mid m (pre.map (bindI F) ++ opO ((i : Int) + 1) :: xs)) hget hs (hbs.ex (by rw [hlc]; exact hl2)) he ?_ (by omega) (by omega) ?_, g2, g3⟩
   · refine (set_aX (N := m) (is := pre.map (bindI F) ++ exeN s :: xs) (LcB_m F L lo mid m _ hm) (by omega) (by simp; omega) (N : Int) (by simp; omega) pre.length (by simp) (opO ((i : Int) + 1)) (may_op _ _ (by omega) (by omega))).trans ?_; unfold LcB; rw [List.set_set]; have := set_mid (pre.map (bindI F)) xs (exeN s) (opO ((i : Int) + 1)); rw [List.length_map] at this; rw [this]
   · have hb : bindI F (exeN s) = opO ((i : Int) + 1) := by unfold bindI; rw [hh, if_pos rfl]; show (F s).1 = _; rw [he]
     have hc0 : cntI F (exeN s) = 1 := by unfold cntI; rw [hh]; rfl
     rw [hb, hc0] at g1; exact g1
  | @sub ys mm d' hd hr hy he hlm' hf' =>
   subst he
   have hloc : ∀ i, mid ≤ i → i < mm + 1 → (LcB F L lo mid m (pre.map (bindI F) ++ arX (mm : Nat) (ys.length : Nat) :: xs))[i]? = L[i]? := fun i i1 i2 => by
    rw [LcB_at F L lo mid m _ i (by omega)]
    have : inI lo mid i = false := by
     cases h : inI lo mid i with
     | false => rfl
     | true => have := inI_iff.1 h; omega
    rw [this]
    cases L[i]? <;> rfl
   obtain ⟨sn1, r1, r2, r3⟩ := ih (LcB F L lo mid m (pre.map (bindI F) ++ arX (mm : Nat) (ys.length : Nat) :: xs)) mid (mm + 1) (arX (mm : Nat) (ys.length : Nat)) seen (h1.local hloc) rfl hbs (by omega) (by rw [hlc]; exact hl2) (by rw [hlc]; omega) (by rw [hlc]; exact hL9) (by omega) (fun q hq i hi hh => hfr q hq i hi (by omega))
   have hcl2 : cntP F (inI mid (mm + 1)) (LcB F L lo mid m (pre.map (bindI F) ++ arX (mm : Nat) (ys.length : Nat) :: xs)) = cntP F (inI mid (mm + 1)) L := cntP_more F hlc fun i _ => by
    unfold cntAt
    by_cases c1 : inI mid (mm + 1) i = true
    · have := inI_iff.1 c1; rw [if_pos c1, if_pos c1, hloc i this.1 this.2]
    · rw [if_neg c1, if_neg c1]
   have hLn : mapP F (inI mid (mm + 1)) (LcB F L lo mid m (pre.map (bindI F) ++ arX (mm : Nat) (ys.length : Nat) :: xs)) = LcB F L lo (mm + 1) m (pre.map (bindI F) ++ arX (mm : Nat) (ys.length : Nat) :: xs) := by
    refine LcB_eq F (by rw [mapP_length, hlc]) hm ?_ fun i hi => ?_
    · rw [mapP_at, LcB_m F L lo mid m _ hm]
      have : inI mid (mm + 1) m = false := by
       cases h : inI mid (mm + 1) m with
       | false => rfl
       | true => have := inI_iff.1 h; omega
      rw [this]; rfl
    · rw [mapP_at, LcB_at F L lo mid m _ i hi]
      cases L[i]? with
      | none => rfl
      | some c =>
       simp only [Option.map_some]
       congr 1
       by_cases c1 : lo ≤ i ∧ i < mid
       · have a1 : inI lo mid i = true := inI_iff.2 c1
         have a2 : inI mid (mm + 1) i = false := by
          cases h : inI mid (mm + 1) i with
          | false => rfl
          | true => have := inI_iff.1 h; omega
         have a3 : inI lo (mm + 1) i = true := inI_iff.2 (by omega); rw [a1, a2, a3]; rfl
       · have a1 : inI lo mid i = false := by
          cases h : inI lo mid i with
          | false => rfl
          | true => exact absurd (inI_iff.1 h) c1
         have a4 : inI mid (mm + 1) i = inI lo (mm + 1) i := by
          rw [Bool.eq_iff_iff, inI_iff, inI_iff]; omega
         rw [a1, a4]; rfl
   have hsp := cntP_split F L hlm (show mid ≤ mm + 1 by omega); rw [hcl2] at r1 r3; rw [hLn] at r1
   obtain ⟨seen', g1, g2, g3⟩ := ihf (pre ++ [arX (mm : Nat) (ys.length : Nat)]) sn1 (by rw [hpl]; omega) (fun q hq i hi hh => by
    rcases r2 q hq with h | ⟨j, hj, j1, j2⟩
    · exact hfr q h i hi (by omega)
    · have : (j : Int) = (i : Int) := by rw [← hj, ← hi]
      omega) (by rw [hsp]; omega)
   have hb : bindI F (arX (mm : Nat) (ys.length : Nat)) = arX (mm : Nat) (ys.length : Nat) := by unfold bindI; rw [hit_arr]; rfl
   have hc0 : cntI F (arX (mm : Nat) (ys.length : Nat)) = 0 := by unfold cntI; rw [hit_arr]; rfl
   rw [e1, hb, hpl, ← e2] at g1; refine ⟨seen', .sub hget rfl rfl (may_arX (N := mm) (is := ys) (by rw [hloc mm (by omega) (by omega)]; exact hr) (by omega) (by omega) _ rfl) r1 (by omega) (by omega) (by omega) (by omega) ?_, fun q hq => ?_, g3⟩
   · have e3 : (((pre.map (cntI F)).sum + cntP F (inI lo mid) L : Nat) : Int) + ((cntP F (inI mid (mm + 1)) L : Nat) : Int) = ((((pre ++ [arX (mm : Nat) (ys.length : Nat)]).map (cntI F)).sum + cntP F (inI lo (mm + 1)) L : Nat) : Int) := by
      simp only [List.map_append, List.map_cons, List.map_nil, List.sum_append, List.sum_cons, List.sum_nil, hc0]; omega
     rw [e3]; exact g1
   · rcases g2 q hq with h | ⟨i, h1, h2, h3⟩
     · rcases r2 q h with h | ⟨i, h1, h2, h3⟩
       · exact .inl h
       · exact .inr ⟨i, h1, h2, by omega⟩
     · exact .inr ⟨i, h1, by omega, h3⟩
theorem rb_tree {F : ByteArray → O × Int} (hF : GoodN F) {HB : List C} : ∀ (f d : Nat), d ≤ f → ∀ (L : List C) (lo hi : Nat) (a : O) (seen : SeenB), TreeB L d lo a hi → a.kind = 9 → BaseB HB L → HB.length ≤ lo → HB.length ≤ L.length → hi ≤ L.length → L.length ≤ 2000 → hi - lo ≤ 801 → FreeI seen lo hi →
 ∃ seen', RbF F HB f L a seen (mapP F (inI lo hi) L, seen', ((cntP F (inI lo hi) L : Nat) : Int)) ∧ SeenI seen' seen lo hi ∧ cntP F (inI lo hi) L ≤ 100 * (hi - lo) := by
 intro f
 induction f with
 | zero =>
  intro d hd L lo hi a seen ht h9; obtain ⟨d', xs, m, rfl, -⟩ := ht.arr9 h9; omega
 | succ f ih =>
  intro d hd L lo hi a seen ht h9 hB hlo hl2 hhi hL9 hsz hfr; obtain ⟨d', xs, m, rfl, rfl, hr, hx, rfl, hlm, hf⟩ := ht.arr9 h9
  have hset : LcB F L lo lo m xs = L := by
   refine (LcB_eq F rfl (by omega) hr fun i hi => ?_).symm
   have : inI lo lo i = false := by
    cases h : inI lo lo i with
    | false => rfl
    | true => have := inI_iff.1 h; omega
   rw [this]
   cases L[i]? <;> rfl
  obtain ⟨seen', g1, g2, g3⟩ := rb_items hF hB hl2 hL9 (f := f) (d := d') (lo := lo) (m := m) hlo (by omega) (by omega) (by omega) xs.length hx (fun L lo hi a seen h1 h2 h3 h4 h5 h6 h7 h8 h9 => ih d' (by omega) L lo hi a seen h1 h2 h3 h4 h5 h6 h7 h8 h9) hf (Nat.le_refl _) [] (seen ++ [partO (arX (m : Nat) (xs.length : Nat))]) (by simp) (fun q hq i hi hh => by
   rcases List.mem_append.1 hq with hq | hq
   · exact hfr q hq i hi (by omega)
   · simp only [List.mem_cons, List.not_mem_nil, or_false] at hq; subst hq; have hi' : (m : Int) = (i : Int) := hi
     omega) (by rw [cntP_empty]; omega)
  simp only [List.map_nil, List.nil_append, hset, cntP_empty] at g1; simp only [List.sum_nil, Nat.add_zero, List.length_nil] at g1; have hcs := cnt_le F xs
  have hfin : LcB F L lo m m (xs.map (bindI F)) = mapP F (inI lo (m + 1)) L := by
   refine (LcB_eq F (by rw [mapP_length]) (by omega) ?_ fun i hi => ?_).symm
   · rw [mapP_at, hr, inI_iff.2 ⟨hlm, Nat.lt_succ_self _⟩]; rfl
   · rw [mapP_at]
     have : inI lo (m + 1) i = inI lo m i := by rw [Bool.eq_iff_iff, inI_iff, inI_iff]; omega
     rw [this]
  have hcnt : cntP F (inI lo (m + 1)) L = (xs.map (cntI F)).sum + cntP F (inI lo m) L := by
   unfold cntP
   rw [sum_one (cntAt F (inI lo m) L) (cntAt F (inI lo (m + 1)) L) m (by
    unfold cntAt
    rw [if_neg (fun h => by have := inI_iff.1 h; omega)]) L.length (fun i hi c => by
    unfold cntAt
    have : inI lo (m + 1) i = inI lo m i := by rw [Bool.eq_iff_iff, inI_iff, inI_iff]; omega
    rw [this]), if_pos (by omega)]
   have : cntAt F (inI lo (m + 1)) L m = (xs.map (cntI F)).sum := by
    unfold cntAt; rw [if_pos (inI_iff.2 ⟨hlm, Nat.lt_succ_self _⟩), hr]; rfl
   rw [this]; omega
  rw [hfin, ← hcnt] at g1; refine ⟨seen', ⟨⟨wf_small m (by omega) (by omega), wf_small 0 (by decide) (by decide), wf_small (xs.length : Nat) (by omega) (by omega)⟩, fun hq => ?_, by simp only; omega, by simp only; omega, ?_⟩, fun q hq => ?_, by rw [hcnt]; omega⟩
  · exact hfr _ hq m rfl ⟨hlm, Nat.lt_succ_self _⟩
  · simp only [Int.toNat_natCast]; exact g1
  · rcases g2 q hq with h | ⟨i, h1, h2, h3⟩
    · rcases List.mem_append.1 h with h | h
      · exact .inl h
      · simp only [List.mem_cons, List.not_mem_nil, or_false] at h; subst h; exact .inr ⟨m, rfl, hlm, Nat.lt_succ_self _⟩
    · exact .inr ⟨i, h1, h2, by omega⟩
noncomputable def dQ (s : ByteArray) : List DQ := sysQ.set 1 (setK [] (nameO s) (iO 5), 200, false)
theorem dQ_is (s : ByteArray) : dQ s = [(sysK 162, 162, true), ([(nameO s, iO 5)], 200, false)] := rfl
theorem dQ_ok (s : ByteArray) : OKQ (dQ s) := by
 rw [dQ_is]; refine ⟨fun q hq => ?_, by simp⟩; simp only [List.mem_cons, List.not_mem_nil, or_false] at hq
 rcases hq with rfl | rfl
 · simp only [sysK_length]; decide
 · simp
theorem hdQ_len (s : ByteArray) : (hQ (dQ s)).length = 2 := by rw [hQ, List.length_map]; rfl
theorem dQ_used (s : ByteArray) : used (hQ (dQ s)) = 726 := by
 have h1 : hQ (dQ s) = [dcellk true (sysK 162) 162] ++ [dcellk false [(nameO s, iO 5)] 200] := by simp [hQ, dQ_is]
 rw [h1, used_cat', used_dc _ _ _ (by rw [sysK_length]; decide), used_dc _ _ _ (by simp)]
theorem getK_mem : ∀ (ps : List (O × O)) (k v : O), getK ps k = some v → ∃ p ∈ ps, p.2 = v
 | [], _, _, h => by simp [getK] at h
 | p :: ps, k, v, h => by
  simp only [getK] at h
  by_cases c : sameO p.1 k = true
  · rw [if_pos c] at h; exact ⟨p, List.mem_cons_self .., Option.some.inj h⟩
  · rw [if_neg c] at h; obtain ⟨q, hq, e⟩ := getK_mem ps k v h; exact ⟨q, List.mem_cons_of_mem _ hq, e⟩
theorem lookF_d (s t : ByteArray) : lookF (dQ s) t = (iO 5, 0) ∨ (∃ i : Nat, i < 162 ∧ lookF (dQ s) t = (opO ((i : Int) + 1), 0)) ∨ lookF (dQ s) t = (O.nil, 9) := by
 have e : lookN (dQ s) (nameO t) 2 = match getK [(nameO s, iO 5)] (nameO t) with | some v => (v, dcn 1, (0 : Int)) | none => match getK (sysK 162) (nameO t) with | some v => (v, dcn 0, (0 : Int)) | none => (O.nil, O.nil, 9) := rfl
 unfold lookF; rw [e]
 cases h1 : getK [(nameO s, iO 5)] (nameO t) with
 | some v =>
  obtain ⟨p, hp, rfl⟩ := getK_mem _ _ _ h1; rw [List.mem_singleton.1 hp]; exact .inl rfl
 | none =>
  cases h2 : getK (sysK 162) (nameO t) with
  | none => exact .inr (.inr rfl)
  | some v =>
   obtain ⟨p, hp, rfl⟩ := getK_mem _ _ _ h2; unfold sysK at hp; obtain ⟨i, hi, rfl⟩ := List.mem_map.1 hp; exact .inr (.inl ⟨i, List.mem_range.1 hi, rfl⟩)
theorem goodN_d (s : ByteArray) : GoodN (lookF (dQ s)) := by
 intro t h
 rcases lookF_d s t with e | ⟨i, hi, e⟩ | e
 · rw [e]; exact .inl ⟨5, rfl, by decide, by decide⟩
 · rw [e]; exact .inr (.inr (.inr ⟨i, hi, rfl⟩))
 · rw [e] at h; exact absurd h (by decide)
theorem goodF_d (s : ByteArray) : GoodF (lookL (dQ s)) := fun _ t h => goodN_d s t h
theorem leaf_err {F : List C → ByteArray → O × Int} {t : Tok} (h : leafB F L t = (L', o, e)) (he : e ≠ 0) : L' = L := by
 unfold leafB at h; split at h
 · unfold stringH makeH at h; split at h
   · simp only [Prod.mk.injEq] at h; exact h.1.symm
   · split at h
     · simp only [Prod.mk.injEq] at h; exact h.1.symm
     · simp only [Prod.mk.injEq] at h; exact absurd h.2.2.symm he
 split at h
 · simp only [Prod.mk.injEq] at h; exact h.1.symm
 split at h
 · simp only [Prod.mk.injEq] at h; exact h.1.symm
 split at h
 · simp only [Prod.mk.injEq] at h; exact h.1.symm
 split at h
 · simp only [Prod.mk.injEq] at h; exact h.1.symm
 · simp only [Prod.mk.injEq] at h; exact h.1.symm
theorem step_pre {F : List C → ByteArray → O × Int} {lo0 k : Nat} (hk : k ≤ 90) {i : Int} {t : Tok} {s : OSt} (hs : RunB lo0 k s) : (∀ s', stepO F i t s = .inl s' → ∃ Z, s'.1 = s.1 ++ Z) ∧ ∀ L a e, stepO F i t s = .inr (L, a, e) → L = s.1 := by
 obtain ⟨L, ls, bg⟩ := s; obtain ⟨j, h1, h2, h3, h4, h5⟩ := hs; simp only at h1 h2 h4 h5
 have err : ∀ (x y : Int) (r : OSt ⊕ (List C × Int × Int)), r = .inr (L, x, y) → (∀ s', r = .inl s' → ∃ Z, s'.1 = L ++ Z) ∧ ∀ L' a e, r = .inr (L', a, e) → L' = L := fun x y r hr => by
  subst hr; exact ⟨fun s' h => by simp at h, fun L' a e h => by simp only [Sum.inr.injEq, Prod.mk.injEq] at h; exact h.1.symm⟩
 have ok : ∀ (Z : List C) (x : List (List O)) (y : List Int) (r : OSt ⊕ (List C × Int × Int)), r = .inl (L ++ Z, x, y) → (∀ s', r = .inl s' → ∃ Z, s'.1 = L ++ Z) ∧ ∀ L' a e, r = .inr (L', a, e) → L' = L := fun Z x y r hr => by
  subst hr; exact ⟨fun s' h => by simp only [Sum.inl.injEq] at h; subst h; exact ⟨Z, rfl⟩, fun L' a e h => by simp at h⟩
 simp only
 by_cases hm : mayT t = false
 · exact err _ _ _ (by unfold stepO; rw [if_pos hm])
 by_cases c7 : t.kind = 7
 · by_cases c20 : bg.length = 20
   · exact err _ _ _ (by unfold stepO; rw [if_neg hm, if_pos c7, if_pos c20])
   · exact ok [] _ _ _ (by unfold stepO; rw [if_neg hm, if_pos c7, if_neg c20, List.append_nil])
 by_cases c8 : t.kind = 8
 · cases bg with
   | nil => exact err _ _ _ (by unfold stepO; rw [if_neg hm, if_neg c7, if_pos c8])
   | cons b bg =>
    cases ls with
    | nil => exact err _ _ _ (by unfold stepO; rw [if_neg hm, if_neg c7, if_pos c8])
    | cons l ls =>
     have hl := h5 l (List.mem_cons_self ..)
     rcases arrB_two L l h4.2.1 (by omega) (fun x hx => h1.may h4.1 l (List.mem_cons_self ..) x hx) with ⟨a1, a2, ha⟩ | ha
     · exact ok [rowC l] (putB (arX L.length l.length) ls) bg _ (by unfold stepO; rw [if_neg hm, if_neg c7, if_pos c8]; simp only [ha, if_true])
     · exact err _ _ _ (by unfold stepO; rw [if_neg hm, if_neg c7, if_pos c8]; simp only [ha]; rfl)
 obtain ⟨L1, o, e1, hlf⟩ : ∃ L1 o e1, leafB F L t = (L1, o, e1) := ⟨_, _, _, rfl⟩
 by_cases he : e1 = 0
 · obtain ⟨Z, rfl⟩ := leaf_base hlf; exact ok Z _ _ _ (by unfold stepO; rw [if_neg hm, if_neg c7, if_neg c8]; simp only [hlf]; rw [if_pos he])
 · obtain rfl := leaf_err hlf he; exact err _ _ _ (by unfold stepO; rw [if_neg hm, if_neg c7, if_neg c8]; simp only [hlf]; rw [if_neg he])
theorem run_pre {F : List C → ByteArray → O × Int} (hF : GoodF F) {lo0 : Nat} : ∀ (ts : List Tok) (k : Nat) (i : Int) (s : OSt), k + ts.length ≤ 90 → RunB lo0 k s → (∀ s', runO F i ts s = .inl s' → ∃ Z, s'.1 = s.1 ++ Z) ∧ ∀ L a e, runO F i ts s = .inr (L, a, e) → (∃ Z, L = s.1 ++ Z) ∧ L.length ≤ 2000 ∧ used L ≤ 40000 ∧ L.length ≤ lo0 + k + ts.length
 | [], k, i, s, _, hs => ⟨fun s' h => by simp only [runO, Sum.inl.injEq] at h; subst h; exact ⟨[], by simp⟩, fun L a e h => by simp [runO] at h⟩
 | t :: ts, k, i, s, hk, hs => by
  simp only [List.length_cons] at hk; have h0 := step_pre (F := F) (i := i) (t := t) (by omega) hs; simp only [runO]
  cases hst : stepO F i t s with
  | inr e =>
   obtain ⟨L, a, e⟩ := e; simp only; have := h0.2 L a e hst; subst this; obtain ⟨j, -, -, -, ⟨g1, g2, g3⟩, -⟩ := hs
   exact ⟨fun s' h => by simp at h, fun L' a' e' h => by
    simp only [Sum.inr.injEq, Prod.mk.injEq] at h; obtain ⟨rfl, -, -⟩ := h
    exact ⟨⟨[], by simp⟩, g1, g2, by simp only [List.length_cons]; omega⟩⟩
  | inl s2 =>
   simp only; obtain ⟨Z, hZ⟩ := h0.1 s2 hst; have ih := run_pre hF ts (k + 1) (i + 1) s2 (by omega) (run_step hF (by omega) hs hst); refine ⟨fun s' h => ?_, fun L a e h => ?_⟩
   · obtain ⟨Z2, h2⟩ := ih.1 s' h; exact ⟨Z ++ Z2, by rw [h2, hZ, List.append_assoc]⟩
   · obtain ⟨⟨Z2, h2⟩, g1, g2, g3⟩ := ih.2 L a e h; exact ⟨⟨Z ++ Z2, by rw [h2, hZ, List.append_assoc]⟩, g1, g2, by simp only [List.length_cons]; omega⟩
theorem run_start (L0 : List C) (hL : L0.length ≤ 2000) (hu : used L0 ≤ 40000) : RunB L0.length 0 (L0, [[]], []) := ⟨0, .base .nil, rfl, by omega, ⟨hL, hu, by simp⟩, fun l hl => by simp at hl; rw [hl]; simp⟩
theorem objs_pre {F : List C → ByteArray → O × Int} (hF : GoodF F) (L0 : List C) (hL : L0.length ≤ 2000) (hu : used L0 ≤ 40000) (ts : List Tok) (hn : ts.length ≤ 90) {L : List C} {os : List O} {a e : Int} (h : objsB F L0 ts = (L, os, a, e)) : (∃ Z, L = L0 ++ Z) ∧ L.length ≤ 2000 ∧ used L ≤ 40000 ∧ L.length ≤ L0.length + ts.length := by
 have h0 := run_start L0 hL hu; have hp := run_pre hF ts 0 0 _ (by omega) h0; unfold objsB at h
 cases hr : runO F 0 ts (L0, [[]], []) with
 | inr e =>
  obtain ⟨L', a, e⟩ := e; rw [hr] at h; simp only [Prod.mk.injEq] at h; obtain ⟨rfl, -⟩ := h; have := hp.2 _ _ _ hr
  simpa using this
 | inl s =>
  obtain ⟨L', ls, bg⟩ := s; rw [hr] at h; obtain ⟨j, -, -, -, ⟨g1, g2, g3⟩, -⟩ := run_all hF ts 0 0 _ _ (by omega) h0 hr
  have hL' : L' = L := by
   cases bg with
   | nil => simp only [Prod.mk.injEq] at h; exact h.1
   | cons b bg => simp only [Prod.mk.injEq] at h; exact h.1
  subst hL'; exact ⟨hp.1 _ hr, g1, g2, by simpa using g3⟩
theorem prog_pre {F : List C → ByteArray → O × Int} (hF : GoodF F) (L0 : List C) (hL : L0.length ≤ 2000) (hu : used L0 ≤ 40000) (ts : List Tok) (hn : ts.length ≤ 90) {L : List C} {o : O} {a e : Int} (h : progB F L0 ts = (L, o, a, e)) : (∃ Z, L = L0 ++ Z) ∧ L.length ≤ 2000 := by
 obtain ⟨L1, os, a1, e1, ho⟩ : ∃ L1 os a1 e1, objsB F L0 ts = (L1, os, a1, e1) := ⟨_, _, _, _, rfl⟩
 obtain ⟨⟨Z, hZ⟩, g1, g2, g3⟩ := objs_pre hF L0 hL hu ts hn ho; unfold progB at h; rw [ho] at h; simp only at h
 by_cases he : e1 = 0
 · subst he
   rcases objs_tree hF L0 hL hu ts hn with ⟨L2, os2, h1, h2, h3, h4, h5, h6⟩ | ⟨L2, a2, e2, h1, h2⟩
   · rw [ho] at h1; simp only [Prod.mk.injEq] at h1; obtain ⟨rfl, rfl, rfl, -⟩ := h1; rw [if_pos rfl] at h
     rcases arrB_two L1 os h4 (by omega) (fun x hx => by obtain ⟨a, b, hx⟩ := h2.all x hx; exact hx.may h3) with ⟨b1, b2, ha⟩ | ha
     · rw [ha] at h; simp only [if_true, Prod.mk.injEq] at h; obtain ⟨rfl, -⟩ := h; exact ⟨⟨Z ++ [rowC os], by rw [hZ, List.append_assoc]⟩, by simp; omega⟩
     · rw [ha] at h; simp only [show ¬ (5 : Int) = 0 by decide, if_false, Prod.mk.injEq] at h; obtain ⟨rfl, -⟩ := h; exact ⟨⟨Z, hZ⟩, g1⟩
   · rw [ho] at h1; simp only [Prod.mk.injEq] at h1; exact absurd h1.2.2.2.symm h2
 · rw [if_neg he] at h; simp only [Prod.mk.injEq] at h; obtain ⟨rfl, -⟩ := h; exact ⟨⟨Z, hZ⟩, g1⟩
theorem ForB.map {P P' : Nat → O → Nat → Prop} {f : O → O} {a0 b0 : Nat} (hP : ∀ a o b, P a o b → a0 ≤ a → b ≤ b0 → P' a (f o) b) (hle : ∀ a o b, P a o b → a ≤ b) {lo hi : Nat} {xs : List O} (h : ForB P lo xs hi) : a0 ≤ lo → hi ≤ b0 → ForB P' lo (xs.map f) hi := by
 induction h with
 | nil => intro _ _; exact .nil
 | @cons lo mid hi x xs h1 h2 ih =>
  intro g1 g2; have e1 := hle _ _ _ h1; have e2 := h2.le hle; exact .cons (hP _ _ _ h1 g1 (by omega)) (ih (by omega) g2)
theorem TreeB.bound {F : ByteArray → O × Int} (hF : GoodN F) {L : List C} {a0 b0 : Nat} (d lo hi : Nat) (o : O) (h : TreeB L d lo o hi) (g1 : a0 ≤ lo) (g2 : hi ≤ b0) : TreeB (mapP F (inI a0 b0) L) d lo (bindI F o) hi := by
 rcases h.cases with ⟨hb, rfl⟩ | ⟨s, rfl, h2, h3, rfl⟩ | ⟨d', xs, m, rfl, rfl, h2, h3, rfl, hf⟩
 · refine TreeB.leaf (.inl ⟨?_, rfl⟩) d; unfold bindI
   by_cases c : hitI F o = true
   · rw [if_pos c]; simp only [hitI, Bool.and_eq_true, decide_eq_true_eq] at c; exact hF _ c.1.2
   · rw [if_neg c]; exact hb
 · have e : bindI F ⟨8, false, (lo : Nat), 0, s.size, ⟨#[]⟩⟩ = ⟨8, false, (lo : Nat), 0, s.size, ⟨#[]⟩⟩ := by simp [bindI, hitI]
   rw [e]; refine TreeB.leaf (.inr ⟨s, rfl, ?_, h3, rfl⟩) d; rw [mapP_at, h2]; simp [bindC, txt]
 · have e : bindI F (arX (m : Nat) (xs.length : Nat)) = arX (m : Nat) ((xs.map (bindI F)).length : Nat) := by simp [bindI, hit_arr]
   rw [e]; have hle := hf.le (fun lo o hi h => TreeB.le h); refine TreeB.arr ?_ (by simpa using h3) (ForB.map (P := TreeB L d') (fun a o b h k1 k2 => TreeB.bound hF d' a b o h k1 k2) (fun lo o hi h => TreeB.le h) hf g1 (by omega)); rw [mapP_at, h2]
   have : inI a0 b0 m = true := by simp [inI]; omega
   simp only [Option.map_some, this, if_true]; rfl
termination_by d
theorem bindI_9 (F : ByteArray → O × Int) {o : O} (h : o.kind = 9) : bindI F o = o := by
 unfold bindI; rw [if_neg]; simp [hitI, h]
theorem allP_one (x : O) (lo hi : Nat) : allP [(x, lo, hi)] = inI lo hi := by
 funext i
 simp [allP]
end Go.Proofs.YtoogmimbmgdflaaGreat
