/- Udh, Udo, Udp, Udq -/
import Derived.Test.YtpgkjgceldleaaaGreatZTabla
/- Walks: table.Do at its operators, over whatever a method does. -/
namespace Go.Proofs.YtpgkjgceldleaaaGreat
open Go.RowKit

@[go_sem] theorem run_store_fn (a : Addr) (m : Mode) (f : Fn) (x y : Array Value) (w : World) : (store a (.func f x y) m).run Tryz.prog w = stored Tryz.prog w a (.func f x y) m := run_store Tryz.prog w a _ m rfl
theorem fam20_is {i f : Nat} (h : (opT[i]?).map Prod.fst = some f) : ∃ bs, opT[i]? = some (f, bs) := by
  cases e : opT[i]? with
  | none => simp [e] at h
  | some p => simp [e] at h; exact ⟨p.2, by rw [← h]⟩
theorem sub_tail {α : Type} (x y : α) (E L K : List α) : K.Sublist (x :: (E ++ (y :: (L ++ K)))) :=
  List.Sublist.cons _ ((List.Sublist.cons _ (List.sublist_append_right L K)).trans (List.sublist_append_right E _))
theorem tab_give {w0 w : World} {M : List (Nat × List C)} {K E : List (Nat × Obj)} {cp hp sp : Nat} {ds l ops gv : List O} {v : Value} (S : TabAt w0 w M K cp hp sp ds (l ++ ops)) (n : Nat) (hn : ops.length = n) (hv : GV E v gv) (hE : ∀ q ∈ E, q ∈ K) (hroom : l.length + gv.length ≤ 200) (hmay : ∀ o ∈ gv, mayO o = true) :
    Calls Tryz.prog 98 #[ptr sp, .int .i64 n, v] w fun e w' => e = .returned (.int .i64 0) ∧ TabAt w0 w' M K cp hp sp ds (l ++ gv) := by
  obtain ⟨g0, cap0, cur0, h1, h2, h3, h4, S⟩ := S
  rcases hv with ⟨rfl, rfl⟩ | ⟨nb, cur, k, rfl, hm, hc, rfl⟩
  · exact (hand_give (gv := []) S n hn 0 rfl hroom hmay none 0 (Nat.le_refl _) (fun m o h => by simp at h)).mono fun e w' ⟨e1, e2⟩ => ⟨e1, g0, cap0, cur0, h1, h2, h3, h4, e2⟩
  · exact (hand_give (gv := gv) S n hn gv.length rfl hroom hmay (some ⟨nb, 0, none⟩) gv.length (Nat.le_refl _) (fun m o ho => ⟨nb, 0, cur, _, rfl, List.mem_cons_of_mem _ (List.mem_cons_of_mem _ (hE _ hm)), fun j hj => reads_of hc m o ho j hj⟩)).mono fun e w' ⟨e1, e2⟩ => ⟨e1, g0, cap0, cur0, h1, h2, h3, h4, e2⟩
set_option maxRecDepth 100000 in
set_option maxHeartbeats 1000000 in
theorem take_nil {w0 w : World} {M : List (Nat × List C)} {K : List (Nat × Obj)} {sp : Nat} {l : List O} (S : StkAt w0 w M K sp l) :
    Calls Tryz.prog 156 #[ptr sp, .slice none 0 0] w (Taken w0 M K sp l [] 0) := by
  have hmk := run_make_objs 0 (by decide) w
  rw [show ((0 : Nat) : Int) = 0 from rfl] at hmk
  have HL := hid' (stk_len S)
  have hlt : ¬ ((l.length : Int) < 0) := by omega
  have HS := hid' S
  clear S
  generalize l.length = n at *
  go_enter Tryz.func156, Tryz.ntmps156
  go_wp2_with fail
  refine HL.out.mono ?_
  rintro r w2 ⟨rfl, rfl⟩
  go_wp2_with fail
  go_loopw [19] (fun cv wr => cv = .int .i64 0 ∧ ∃ cur : Array Value, cur.toList = [] ∧ StkAt w0 wr M ((w.heap.size, .cells cur 38) :: K) sp l) (fun _ _ => 0)
  case atStart => exact ⟨rfl, (zrow 0), by rw [zrow_toList]; rfl, HS.out.alloc _⟩
  case round =>
    obtain ⟨rfl, cur, hc, S1⟩ := hrel
    go_wp2_with fail
    go_ret2
    exact ⟨_, _, rfl, hc, S1⟩
set_option maxRecDepth 100000 in
set_option maxHeartbeats 1000000 in
/-- From with no kinds. -/
theorem from_nil {w0 w : World} {M : List (Nat × List C)} {K : List (Nat × Obj)} {sp hp : Nat} {l : List O} {L : List C} (S : StkAt w0 w M K sp l) (hm : (hp, L) ∈ M) :
    Calls Tryz.prog 97 #[ptr hp, ptr sp, .slice none 0 0] w (Taken w0 M K sp l [] 0) := by
  have HT := hid' (take_nil S)
  have HH := hid' (fun (w' : World) (g : Nat) (cur : Array Value) (S' : StkAt w0 w' M ((g, .cells cur 38) :: K) sp l) =>
    hand_held (ops := []) S' hm 0 g 0 cur 0 rfl (by omega) (Nat.le_refl _) m0 (fun m o h => by simp at h) (fun o h => by simp at h) (fun o h => by simp at h))
  clear S hm
  go_enter Tryz.func97, Tryz.ntmps97
  go_wp2_with fail
  refine HT.out.mono ?_
  rintro e w2 ⟨g, cur, rfl, hc, S2⟩
  have HC := hid' hc
  clear hc
  go_wp2_with fail
  refine (HH.out _ _ _ S2).mono ?_
  rintro e w3 ⟨rfl, S3⟩
  go_wp2_with fail
  go_ret2
  exact ⟨g, cur, rfl, HC.out, S3⟩
end Go.Proofs.YtpgkjgceldleaaaGreat
/- Walks: table.Do at its operators, over whatever a method does. -/
namespace Go.Proofs.YtpgkjgceldleaaaGreat
open Go.RowKit

set_option maxRecDepth 100000 in
set_option maxHeartbeats 4000000 in
theorem tdo_59 {w0 w : World} {M M' : List (Nat × List C)} {K : List (Nat × Obj)} {cp hp sp : Nat} {ds ds' l lo ops gv : List O} {L : List C} {e : Int} (S : TabAt w0 w M K cp hp sp ds (l ++ ops)) (hm : (hp, L) ∈ M) (hn : ops.length = 1) (hT : ∀ (i : Nat) (k : Int) (o : O), ([8] : List Int)[i]? = some k → ops[i]? = some o → isK k o.kind = true) (hH : HeldAll L ops)
    (H : ∀ w' K' wb g cur, cur.toList = ops.flatMap O.cells → (g, Obj.cells cur 38) ∈ K' → TabAt w0 w' M ((wb, wkBox hp cp sp (.slice (some ⟨g, 0, none⟩) 1 1) (.slice none 0 0)) :: K') cp hp sp ds (l ++ ops) → Calls Tryz.prog 84 #[ptr wb] w' (Gave w0 M' K' cp hp sp ds' (l ++ ops) wb 1 gv e))
    (hE : (e ≠ 0 ∧ lo = l ++ ops) ∨ (e = 0 ∧ lo = l ++ gv ∧ l.length + gv.length ≤ 200 ∧ ∀ o ∈ gv, mayO o = true)) :
    Calls Tryz.prog 44 #[ptr hp, ptr cp, ptr sp, .int .i64 59] w fun r w' => r = .returned (.int .i64 e) ∧ TabAt w0 w' M' K cp hp sp ds' lo := by
  obtain ⟨bs, hbs⟩ := fam20_is (i := 58) (f := 3) (by decide +kernel)
  have HFA := hid' (fun w' => family_at 58 3 bs hbs w')
  have HF := hid' (fun (w' : World) (g : Nat) (K' : List (Nat × Obj)) (hk : (g, Obj.cells #[.int .i64 8] 3) ∈ K') (S' : TabAt w0 w' M K' cp hp sp ds (l ++ ops)) => S'.take (fun E A => hand_from (hp := hp) A hm [8] g (List.mem_append_right _ hk) (by rw [hn]; rfl) hT hH 1 hn))
  have HG := hid' (fun (W : World) (K' E : List (Nat × Obj)) (v : Value) (S' : TabAt w0 W M' K' cp hp sp ds' (l ++ ops)) (hv : GV E v gv) (hE : ∀ q ∈ E, q ∈ K') (hr : l.length + gv.length ≤ 200) (hy : ∀ o ∈ gv, mayO o = true) => tab_give S' 1 hn hv hE hr hy)
  have HH := hid' H
  have HE := hid' hE
  clear H hE hbs hm hT hH
  go_enter Tryz.func44, Tryz.ntmps44
  go_wp2_with fail
  refine (HFA.out _).mono ?_
  rintro r w1 ⟨rfl, X1⟩
  have S1 := S.pure X1
  have T0 := S1.alloc (.cells #[.func (.func 84) #[] #[], .func (.func 85) #[] #[], .func (.func 86) #[] #[], .func (.func 87) #[] #[], .func (.func 88) #[] #[], .func (.func 89) #[] #[], .func (.func 90) #[] #[], .func (.func 91) #[] #[], .func (.func 92) #[] #[], .func (.func 93) #[] #[], .func (.func 94) #[] #[], .func (.func 95) #[] #[], .func (.func 96) #[] #[]] 148)
  have T1 := T0.alloc (.cells #[.int .i64 8] 3)
  have T2 := T1.alloc (.cells #[.int .i64 1024] 3)
  have T3 := T2.alloc (.cells #[.int .i64 (-3), .int .i64 (-1)] 3)
  have T4 := T3.alloc (.cells #[.int .i64 (-3)] 3)
  have T5 := T4.alloc (.cells #[.int .i64 (-3), .int .i64 (-1)] 3)
  have T6 := T5.alloc (.cells #[.int .i64 1024, .int .i64 (-3)] 3)
  have T7 := T6.alloc (.cells #[.int .i64 1024, .int .i64 (-3)] 3)
  have T8 := T7.alloc (.cells #[.int .i64 (-3)] 3)
  have T9 := T8.alloc (.cells #[.int .i64 1024] 3)
  have T10 := T9.alloc (.cells #[.slice (some ⟨w1.heap.size + 1, 0, none⟩) 1 1, .slice (some ⟨w1.heap.size + 1 + 1, 0, none⟩) 1 1, .slice none 0 0, .slice (some ⟨w1.heap.size + 1 + 1 + 1, 0, none⟩) 2 2, .slice (some ⟨w1.heap.size + 1 + 1 + 1 + 1, 0, none⟩) 1 1, .slice (some ⟨w1.heap.size + 1 + 1 + 1 + 1 + 1, 0, none⟩) 2 2, .slice (some ⟨w1.heap.size + 1 + 1 + 1 + 1 + 1 + 1, 0, none⟩) 2 2, .slice (some ⟨w1.heap.size + 1 + 1 + 1 + 1 + 1 + 1 + 1, 0, none⟩) 2 2, .slice (some ⟨w1.heap.size + 1 + 1 + 1 + 1 + 1 + 1 + 1 + 1, 0, none⟩) 1 1, .slice none 0 0, .slice none 0 0, .slice (some ⟨w1.heap.size + 1 + 1 + 1 + 1 + 1 + 1 + 1 + 1 + 1, 0, none⟩) 1 1, .slice none 0 0] 149)
  simp only [World.size_alloc] at T10
  clear T0 T1 T2 T3 T4 T5 T6 T7 T8 T9 S1 S X1
  go_upto_region 5 with (fail)
  generalize w1.heap.size + 1 + 1 + 1 + 1 + 1 + 1 + 1 + 1 + 1 + 1 = b10 at *
  generalize w1.heap.size + 1 + 1 + 1 + 1 + 1 + 1 + 1 + 1 + 1 = b9 at *
  generalize w1.heap.size + 1 + 1 + 1 + 1 + 1 + 1 + 1 + 1 = b8 at *
  generalize w1.heap.size + 1 + 1 + 1 + 1 + 1 + 1 + 1 = b7 at *
  generalize w1.heap.size + 1 + 1 + 1 + 1 + 1 + 1 = b6 at *
  generalize w1.heap.size + 1 + 1 + 1 + 1 + 1 = b5 at *
  generalize w1.heap.size + 1 + 1 + 1 + 1 = b4 at *
  generalize w1.heap.size + 1 + 1 + 1 = b3 at *
  generalize w1.heap.size + 1 + 1 = b2 at *
  generalize w1.heap.size + 1 = b1 at *
  generalize w1.heap.size = b0 at *
  generalize World.alloc _ _ = w2 at *
  obtain ⟨KL, hKL⟩ : ∃ KL : List (Nat × Obj), KL = [(b10, Obj.cells #[.slice (some ⟨b1, 0, none⟩) 1 1, .slice (some ⟨b2, 0, none⟩) 1 1, .slice none 0 0, .slice (some ⟨b3, 0, none⟩) 2 2, .slice (some ⟨b4, 0, none⟩) 1 1, .slice (some ⟨b5, 0, none⟩) 2 2, .slice (some ⟨b6, 0, none⟩) 2 2, .slice (some ⟨b7, 0, none⟩) 2 2, .slice (some ⟨b8, 0, none⟩) 1 1, .slice none 0 0, .slice none 0 0, .slice (some ⟨b9, 0, none⟩) 1 1, .slice none 0 0] 149), (b9, Obj.cells #[.int .i64 1024] 3), (b8, Obj.cells #[.int .i64 (-3)] 3), (b7, Obj.cells #[.int .i64 1024, .int .i64 (-3)] 3), (b6, Obj.cells #[.int .i64 1024, .int .i64 (-3)] 3), (b5, Obj.cells #[.int .i64 (-3), .int .i64 (-1)] 3), (b4, Obj.cells #[.int .i64 (-3)] 3), (b3, Obj.cells #[.int .i64 (-3), .int .i64 (-1)] 3), (b2, Obj.cells #[.int .i64 1024] 3), (b1, Obj.cells #[.int .i64 8] 3), (b0, Obj.cells #[.func (.func 84) #[] #[], .func (.func 85) #[] #[], .func (.func 86) #[] #[], .func (.func 87) #[] #[], .func (.func 88) #[] #[], .func (.func 89) #[] #[], .func (.func 90) #[] #[], .func (.func 91) #[] #[], .func (.func 92) #[] #[], .func (.func 93) #[] #[], .func (.func 94) #[] #[], .func (.func 95) #[] #[], .func (.func 96) #[] #[]] 148)] := ⟨_, rfl⟩
  have n10 : (b10, Obj.cells #[.slice (some ⟨b1, 0, none⟩) 1 1, .slice (some ⟨b2, 0, none⟩) 1 1, .slice none 0 0, .slice (some ⟨b3, 0, none⟩) 2 2, .slice (some ⟨b4, 0, none⟩) 1 1, .slice (some ⟨b5, 0, none⟩) 2 2, .slice (some ⟨b6, 0, none⟩) 2 2, .slice (some ⟨b7, 0, none⟩) 2 2, .slice (some ⟨b8, 0, none⟩) 1 1, .slice none 0 0, .slice none 0 0, .slice (some ⟨b9, 0, none⟩) 1 1, .slice none 0 0] 149) ∈ KL := by rw [hKL]; exact List.mem_cons_self ..
  have n0 : (b0, Obj.cells #[.func (.func 84) #[] #[], .func (.func 85) #[] #[], .func (.func 86) #[] #[], .func (.func 87) #[] #[], .func (.func 88) #[] #[], .func (.func 89) #[] #[], .func (.func 90) #[] #[], .func (.func 91) #[] #[], .func (.func 92) #[] #[], .func (.func 93) #[] #[], .func (.func 94) #[] #[], .func (.func 95) #[] #[], .func (.func 96) #[] #[]] 148) ∈ KL := by rw [hKL]; simp
  have nk : (b1, Obj.cells #[.int .i64 8] 3) ∈ KL := by rw [hKL]; simp
  have T11 : TabAt w0 w2 M (KL ++ K) cp hp sp ds (l ++ ops) := by rw [hKL]; exact T10
  have R10 := cells_of (T11.box _ (List.mem_append_left _ n10))
  have y10 := blk_lt (T11.box _ (List.mem_append_left _ n10))
  simp only at R10 y10
  clear T10 hKL
  have HT := hid' T11
  clear T11
  go_wp2_with fail
  refine (HF.out _ _ _ (List.mem_append_left _ nk) HT.out).mono ?_
  rintro r w3 ⟨g, cur, rfl, hc, S3⟩
  have R0 := cells_of (S3.box _ (List.mem_cons_of_mem _ (List.mem_append_left _ n0)))
  have y0 := blk_lt (S3.box _ (List.mem_cons_of_mem _ (List.mem_append_left _ n0)))
  simp only at R0 y0
  have S4 := S3.alloc (wkBox hp cp sp (.slice (some ⟨g, 0, none⟩) 1 1) (.slice none 0 0))
  clear HT S3 HF R10 y10
  go_wp2_with fail
  refine (HH.out _ _ _ _ _ hc m0 S4).mono ?_
  rintro r w5 ⟨rfl, a, c, v, E, S5, hv⟩
  have HX := HE.out
  rcases HX with ⟨he, rfl⟩ | ⟨rfl, rfl, hr, hy⟩
  · have he' : (e != 0) = true := by simpa using he
    clear HE HH HG he
    go_wp2_with fail
    go_ret
    exact ⟨rfl, S5.keep (sub_tail _ _ _ _ _)⟩
  · have hS5 := hid' S5
    obtain ⟨KB, hKB⟩ : ∃ KB, KB = (w3.heap.size, wkBox hp cp sp (.slice a 1 c) v) :: (E ++ ((g, Obj.cells cur 38) :: (KL ++ K))) := ⟨_, rfl⟩
    have hw : (w3.heap.size, wkBox hp cp sp (.slice a 1 c) v) ∈ KB := by rw [hKB]; exact m0
    have hE2 : ∀ q ∈ E, q ∈ KB := fun q hq => by rw [hKB]; exact List.mem_cons_of_mem _ (List.mem_append_left _ hq)
    rw [← hKB] at S5
    have HKB := hid' hKB
    have RW := TB.cells (w0 := w0) (cp := cp) (hp := hp) (sp := sp) hw
    have lw := blk_lt (S5.box _ hw)
    simp only at lw
    have hS1 := TB.of S5
    have HS := hid' S5
    have HG := hid' (fun W S' => HG.out W KB E v S' hv hE2 hr hy)
    clear S5 hS5 HE HH hw hE2 hKB hv hr hy
    generalize w3.heap.size = wb at *
    go_upto_region 12 with (fail)
    go_region_held3 (fun W' => TB w0 cp hp sp KB W') (first | (with_reducible assumption) | (with_reducible exact TB.of S6) | (with_reducible exact TB.drew (by with_reducible assumption)))
      ((go_at_call 98; refine (HG.out _ (by first | (with_reducible exact HS.out) | (with_reducible exact HS.out.drew))).mono ?_; rintro r w6 ⟨rfl, S6⟩))
    go_wp2_with fail
    go_ret
    exact ⟨rfl, S6.keep (by rw [HKB.out]; exact sub_tail _ _ _ _ _)⟩
set_option maxRecDepth 100000 in
set_option maxHeartbeats 4000000 in
theorem tdo_60 {w0 w : World} {M M' : List (Nat × List C)} {K : List (Nat × Obj)} {cp hp sp : Nat} {ds ds' l lo ops gv : List O} {L : List C} {e : Int} (S : TabAt w0 w M K cp hp sp ds (l ++ ops)) (hm : (hp, L) ∈ M) (hn : ops.length = 1) (hT : ∀ (i : Nat) (k : Int) (o : O), ([1024] : List Int)[i]? = some k → ops[i]? = some o → isK k o.kind = true) (hH : HeldAll L ops)
    (H : ∀ w' K' wb g cur, cur.toList = ops.flatMap O.cells → (g, Obj.cells cur 38) ∈ K' → TabAt w0 w' M ((wb, wkBox hp cp sp (.slice (some ⟨g, 0, none⟩) 1 1) (.slice none 0 0)) :: K') cp hp sp ds (l ++ ops) → Calls Tryz.prog 85 #[ptr wb] w' (Gave w0 M' K' cp hp sp ds' (l ++ ops) wb 1 gv e))
    (hE : (e ≠ 0 ∧ lo = l ++ ops) ∨ (e = 0 ∧ lo = l ++ gv ∧ l.length + gv.length ≤ 200 ∧ ∀ o ∈ gv, mayO o = true)) :
    Calls Tryz.prog 44 #[ptr hp, ptr cp, ptr sp, .int .i64 60] w fun r w' => r = .returned (.int .i64 e) ∧ TabAt w0 w' M' K cp hp sp ds' lo := by
  obtain ⟨bs, hbs⟩ := fam20_is (i := 59) (f := 3) (by decide +kernel)
  have HFA := hid' (fun w' => family_at 59 3 bs hbs w')
  have HF := hid' (fun (w' : World) (g : Nat) (K' : List (Nat × Obj)) (hk : (g, Obj.cells #[.int .i64 1024] 3) ∈ K') (S' : TabAt w0 w' M K' cp hp sp ds (l ++ ops)) => S'.take (fun E A => hand_from (hp := hp) A hm [1024] g (List.mem_append_right _ hk) (by rw [hn]; rfl) hT hH 1 hn))
  have HG := hid' (fun (W : World) (K' E : List (Nat × Obj)) (v : Value) (S' : TabAt w0 W M' K' cp hp sp ds' (l ++ ops)) (hv : GV E v gv) (hE : ∀ q ∈ E, q ∈ K') (hr : l.length + gv.length ≤ 200) (hy : ∀ o ∈ gv, mayO o = true) => tab_give S' 1 hn hv hE hr hy)
  have HH := hid' H
  have HE := hid' hE
  clear H hE hbs hm hT hH
  go_enter Tryz.func44, Tryz.ntmps44
  go_wp2_with fail
  refine (HFA.out _).mono ?_
  rintro r w1 ⟨rfl, X1⟩
  have S1 := S.pure X1
  have T0 := S1.alloc (.cells #[.func (.func 84) #[] #[], .func (.func 85) #[] #[], .func (.func 86) #[] #[], .func (.func 87) #[] #[], .func (.func 88) #[] #[], .func (.func 89) #[] #[], .func (.func 90) #[] #[], .func (.func 91) #[] #[], .func (.func 92) #[] #[], .func (.func 93) #[] #[], .func (.func 94) #[] #[], .func (.func 95) #[] #[], .func (.func 96) #[] #[]] 148)
  have T1 := T0.alloc (.cells #[.int .i64 8] 3)
  have T2 := T1.alloc (.cells #[.int .i64 1024] 3)
  have T3 := T2.alloc (.cells #[.int .i64 (-3), .int .i64 (-1)] 3)
  have T4 := T3.alloc (.cells #[.int .i64 (-3)] 3)
  have T5 := T4.alloc (.cells #[.int .i64 (-3), .int .i64 (-1)] 3)
  have T6 := T5.alloc (.cells #[.int .i64 1024, .int .i64 (-3)] 3)
  have T7 := T6.alloc (.cells #[.int .i64 1024, .int .i64 (-3)] 3)
  have T8 := T7.alloc (.cells #[.int .i64 (-3)] 3)
  have T9 := T8.alloc (.cells #[.int .i64 1024] 3)
  have T10 := T9.alloc (.cells #[.slice (some ⟨w1.heap.size + 1, 0, none⟩) 1 1, .slice (some ⟨w1.heap.size + 1 + 1, 0, none⟩) 1 1, .slice none 0 0, .slice (some ⟨w1.heap.size + 1 + 1 + 1, 0, none⟩) 2 2, .slice (some ⟨w1.heap.size + 1 + 1 + 1 + 1, 0, none⟩) 1 1, .slice (some ⟨w1.heap.size + 1 + 1 + 1 + 1 + 1, 0, none⟩) 2 2, .slice (some ⟨w1.heap.size + 1 + 1 + 1 + 1 + 1 + 1, 0, none⟩) 2 2, .slice (some ⟨w1.heap.size + 1 + 1 + 1 + 1 + 1 + 1 + 1, 0, none⟩) 2 2, .slice (some ⟨w1.heap.size + 1 + 1 + 1 + 1 + 1 + 1 + 1 + 1, 0, none⟩) 1 1, .slice none 0 0, .slice none 0 0, .slice (some ⟨w1.heap.size + 1 + 1 + 1 + 1 + 1 + 1 + 1 + 1 + 1, 0, none⟩) 1 1, .slice none 0 0] 149)
  simp only [World.size_alloc] at T10
  clear T0 T1 T2 T3 T4 T5 T6 T7 T8 T9 S1 S X1
  go_upto_region 5 with (fail)
  generalize w1.heap.size + 1 + 1 + 1 + 1 + 1 + 1 + 1 + 1 + 1 + 1 = b10 at *
  generalize w1.heap.size + 1 + 1 + 1 + 1 + 1 + 1 + 1 + 1 + 1 = b9 at *
  generalize w1.heap.size + 1 + 1 + 1 + 1 + 1 + 1 + 1 + 1 = b8 at *
  generalize w1.heap.size + 1 + 1 + 1 + 1 + 1 + 1 + 1 = b7 at *
  generalize w1.heap.size + 1 + 1 + 1 + 1 + 1 + 1 = b6 at *
  generalize w1.heap.size + 1 + 1 + 1 + 1 + 1 = b5 at *
  generalize w1.heap.size + 1 + 1 + 1 + 1 = b4 at *
  generalize w1.heap.size + 1 + 1 + 1 = b3 at *
  generalize w1.heap.size + 1 + 1 = b2 at *
  generalize w1.heap.size + 1 = b1 at *
  generalize w1.heap.size = b0 at *
  generalize World.alloc _ _ = w2 at *
  obtain ⟨KL, hKL⟩ : ∃ KL : List (Nat × Obj), KL = [(b10, Obj.cells #[.slice (some ⟨b1, 0, none⟩) 1 1, .slice (some ⟨b2, 0, none⟩) 1 1, .slice none 0 0, .slice (some ⟨b3, 0, none⟩) 2 2, .slice (some ⟨b4, 0, none⟩) 1 1, .slice (some ⟨b5, 0, none⟩) 2 2, .slice (some ⟨b6, 0, none⟩) 2 2, .slice (some ⟨b7, 0, none⟩) 2 2, .slice (some ⟨b8, 0, none⟩) 1 1, .slice none 0 0, .slice none 0 0, .slice (some ⟨b9, 0, none⟩) 1 1, .slice none 0 0] 149), (b9, Obj.cells #[.int .i64 1024] 3), (b8, Obj.cells #[.int .i64 (-3)] 3), (b7, Obj.cells #[.int .i64 1024, .int .i64 (-3)] 3), (b6, Obj.cells #[.int .i64 1024, .int .i64 (-3)] 3), (b5, Obj.cells #[.int .i64 (-3), .int .i64 (-1)] 3), (b4, Obj.cells #[.int .i64 (-3)] 3), (b3, Obj.cells #[.int .i64 (-3), .int .i64 (-1)] 3), (b2, Obj.cells #[.int .i64 1024] 3), (b1, Obj.cells #[.int .i64 8] 3), (b0, Obj.cells #[.func (.func 84) #[] #[], .func (.func 85) #[] #[], .func (.func 86) #[] #[], .func (.func 87) #[] #[], .func (.func 88) #[] #[], .func (.func 89) #[] #[], .func (.func 90) #[] #[], .func (.func 91) #[] #[], .func (.func 92) #[] #[], .func (.func 93) #[] #[], .func (.func 94) #[] #[], .func (.func 95) #[] #[], .func (.func 96) #[] #[]] 148)] := ⟨_, rfl⟩
  have n10 : (b10, Obj.cells #[.slice (some ⟨b1, 0, none⟩) 1 1, .slice (some ⟨b2, 0, none⟩) 1 1, .slice none 0 0, .slice (some ⟨b3, 0, none⟩) 2 2, .slice (some ⟨b4, 0, none⟩) 1 1, .slice (some ⟨b5, 0, none⟩) 2 2, .slice (some ⟨b6, 0, none⟩) 2 2, .slice (some ⟨b7, 0, none⟩) 2 2, .slice (some ⟨b8, 0, none⟩) 1 1, .slice none 0 0, .slice none 0 0, .slice (some ⟨b9, 0, none⟩) 1 1, .slice none 0 0] 149) ∈ KL := by rw [hKL]; exact List.mem_cons_self ..
  have n0 : (b0, Obj.cells #[.func (.func 84) #[] #[], .func (.func 85) #[] #[], .func (.func 86) #[] #[], .func (.func 87) #[] #[], .func (.func 88) #[] #[], .func (.func 89) #[] #[], .func (.func 90) #[] #[], .func (.func 91) #[] #[], .func (.func 92) #[] #[], .func (.func 93) #[] #[], .func (.func 94) #[] #[], .func (.func 95) #[] #[], .func (.func 96) #[] #[]] 148) ∈ KL := by rw [hKL]; simp
  have nk : (b2, Obj.cells #[.int .i64 1024] 3) ∈ KL := by rw [hKL]; simp
  have T11 : TabAt w0 w2 M (KL ++ K) cp hp sp ds (l ++ ops) := by rw [hKL]; exact T10
  have R10 := cells_of (T11.box _ (List.mem_append_left _ n10))
  have y10 := blk_lt (T11.box _ (List.mem_append_left _ n10))
  simp only at R10 y10
  clear T10 hKL
  have HT := hid' T11
  clear T11
  go_wp2_with fail
  refine (HF.out _ _ _ (List.mem_append_left _ nk) HT.out).mono ?_
  rintro r w3 ⟨g, cur, rfl, hc, S3⟩
  have R0 := cells_of (S3.box _ (List.mem_cons_of_mem _ (List.mem_append_left _ n0)))
  have y0 := blk_lt (S3.box _ (List.mem_cons_of_mem _ (List.mem_append_left _ n0)))
  simp only at R0 y0
  have S4 := S3.alloc (wkBox hp cp sp (.slice (some ⟨g, 0, none⟩) 1 1) (.slice none 0 0))
  clear HT S3 HF R10 y10
  go_wp2_with fail
  refine (HH.out _ _ _ _ _ hc m0 S4).mono ?_
  rintro r w5 ⟨rfl, a, c, v, E, S5, hv⟩
  have HX := HE.out
  rcases HX with ⟨he, rfl⟩ | ⟨rfl, rfl, hr, hy⟩
  · have he' : (e != 0) = true := by simpa using he
    clear HE HH HG he
    go_wp2_with fail
    go_ret
    exact ⟨rfl, S5.keep (sub_tail _ _ _ _ _)⟩
  · have hS5 := hid' S5
    obtain ⟨KB, hKB⟩ : ∃ KB, KB = (w3.heap.size, wkBox hp cp sp (.slice a 1 c) v) :: (E ++ ((g, Obj.cells cur 38) :: (KL ++ K))) := ⟨_, rfl⟩
    have hw : (w3.heap.size, wkBox hp cp sp (.slice a 1 c) v) ∈ KB := by rw [hKB]; exact m0
    have hE2 : ∀ q ∈ E, q ∈ KB := fun q hq => by rw [hKB]; exact List.mem_cons_of_mem _ (List.mem_append_left _ hq)
    rw [← hKB] at S5
    have HKB := hid' hKB
    have RW := TB.cells (w0 := w0) (cp := cp) (hp := hp) (sp := sp) hw
    have lw := blk_lt (S5.box _ hw)
    simp only at lw
    have hS1 := TB.of S5
    have HS := hid' S5
    have HG := hid' (fun W S' => HG.out W KB E v S' hv hE2 hr hy)
    clear S5 hS5 HE HH hw hE2 hKB hv hr hy
    generalize w3.heap.size = wb at *
    go_upto_region 12 with (fail)
    go_region_held3 (fun W' => TB w0 cp hp sp KB W') (first | (with_reducible assumption) | (with_reducible exact TB.of S6) | (with_reducible exact TB.drew (by with_reducible assumption)))
      ((go_at_call 98; refine (HG.out _ (by first | (with_reducible exact HS.out) | (with_reducible exact HS.out.drew))).mono ?_; rintro r w6 ⟨rfl, S6⟩))
    go_wp2_with fail
    go_ret
    exact ⟨rfl, S6.keep (by rw [HKB.out]; exact sub_tail _ _ _ _ _)⟩
set_option maxRecDepth 100000 in
set_option maxHeartbeats 4000000 in
theorem tdo_61 {w0 w : World} {M M' : List (Nat × List C)} {K : List (Nat × Obj)} {cp hp sp : Nat} {ds ds' l lo ops gv : List O} {L : List C} {e : Int} (S : TabAt w0 w M K cp hp sp ds (l ++ ops)) (hm : (hp, L) ∈ M) (n : Nat) (hn : ops.length = n) (hn2 : n ≤ 200)
    (H : ∀ w' K' wb g, TabAt w0 w' M ((wb, wkBox hp cp sp (.slice (some ⟨g, 0, none⟩) 0 0) (.slice none 0 0)) :: K') cp hp sp ds (l ++ ops) → Calls Tryz.prog 86 #[ptr wb] w' (Gave w0 M' K' cp hp sp ds' (l ++ ops) wb n gv e))
    (hE : (e ≠ 0 ∧ lo = l ++ ops) ∨ (e = 0 ∧ lo = l ++ gv ∧ l.length + gv.length ≤ 200 ∧ ∀ o ∈ gv, mayO o = true)) :
    Calls Tryz.prog 44 #[ptr hp, ptr cp, ptr sp, .int .i64 61] w fun r w' => r = .returned (.int .i64 e) ∧ TabAt w0 w' M' K cp hp sp ds' lo := by
  obtain ⟨bs, hbs⟩ := fam20_is (i := 60) (f := 3) (by decide +kernel)
  have HFA := hid' (fun w' => family_at 60 3 bs hbs w')
  have HF := hid' (fun (w' : World) (K' : List (Nat × Obj)) (S' : TabAt w0 w' M K' cp hp sp ds (l ++ ops)) => S'.take (fun E A => from_nil (hp := hp) A hm))
  have HG := hid' (fun (W : World) (K' E : List (Nat × Obj)) (v : Value) (S' : TabAt w0 W M' K' cp hp sp ds' (l ++ ops)) (hv : GV E v gv) (hE : ∀ q ∈ E, q ∈ K') (hr : l.length + gv.length ≤ 200) (hy : ∀ o ∈ gv, mayO o = true) => tab_give S' n hn hv hE hr hy)
  have HH := hid' H
  have HE := hid' hE
  clear H hE hbs hm
  go_enter Tryz.func44, Tryz.ntmps44
  go_wp2_with fail
  refine (HFA.out _).mono ?_
  rintro r w1 ⟨rfl, X1⟩
  have S1 := S.pure X1
  have T0 := S1.alloc (.cells #[.func (.func 84) #[] #[], .func (.func 85) #[] #[], .func (.func 86) #[] #[], .func (.func 87) #[] #[], .func (.func 88) #[] #[], .func (.func 89) #[] #[], .func (.func 90) #[] #[], .func (.func 91) #[] #[], .func (.func 92) #[] #[], .func (.func 93) #[] #[], .func (.func 94) #[] #[], .func (.func 95) #[] #[], .func (.func 96) #[] #[]] 148)
  have T1 := T0.alloc (.cells #[.int .i64 8] 3)
  have T2 := T1.alloc (.cells #[.int .i64 1024] 3)
  have T3 := T2.alloc (.cells #[.int .i64 (-3), .int .i64 (-1)] 3)
  have T4 := T3.alloc (.cells #[.int .i64 (-3)] 3)
  have T5 := T4.alloc (.cells #[.int .i64 (-3), .int .i64 (-1)] 3)
  have T6 := T5.alloc (.cells #[.int .i64 1024, .int .i64 (-3)] 3)
  have T7 := T6.alloc (.cells #[.int .i64 1024, .int .i64 (-3)] 3)
  have T8 := T7.alloc (.cells #[.int .i64 (-3)] 3)
  have T9 := T8.alloc (.cells #[.int .i64 1024] 3)
  have T10 := T9.alloc (.cells #[.slice (some ⟨w1.heap.size + 1, 0, none⟩) 1 1, .slice (some ⟨w1.heap.size + 1 + 1, 0, none⟩) 1 1, .slice none 0 0, .slice (some ⟨w1.heap.size + 1 + 1 + 1, 0, none⟩) 2 2, .slice (some ⟨w1.heap.size + 1 + 1 + 1 + 1, 0, none⟩) 1 1, .slice (some ⟨w1.heap.size + 1 + 1 + 1 + 1 + 1, 0, none⟩) 2 2, .slice (some ⟨w1.heap.size + 1 + 1 + 1 + 1 + 1 + 1, 0, none⟩) 2 2, .slice (some ⟨w1.heap.size + 1 + 1 + 1 + 1 + 1 + 1 + 1, 0, none⟩) 2 2, .slice (some ⟨w1.heap.size + 1 + 1 + 1 + 1 + 1 + 1 + 1 + 1, 0, none⟩) 1 1, .slice none 0 0, .slice none 0 0, .slice (some ⟨w1.heap.size + 1 + 1 + 1 + 1 + 1 + 1 + 1 + 1 + 1, 0, none⟩) 1 1, .slice none 0 0] 149)
  simp only [World.size_alloc] at T10
  clear T0 T1 T2 T3 T4 T5 T6 T7 T8 T9 S1 S X1
  go_upto_region 5 with (fail)
  generalize w1.heap.size + 1 + 1 + 1 + 1 + 1 + 1 + 1 + 1 + 1 + 1 = b10 at *
  generalize w1.heap.size + 1 + 1 + 1 + 1 + 1 + 1 + 1 + 1 + 1 = b9 at *
  generalize w1.heap.size + 1 + 1 + 1 + 1 + 1 + 1 + 1 + 1 = b8 at *
  generalize w1.heap.size + 1 + 1 + 1 + 1 + 1 + 1 + 1 = b7 at *
  generalize w1.heap.size + 1 + 1 + 1 + 1 + 1 + 1 = b6 at *
  generalize w1.heap.size + 1 + 1 + 1 + 1 + 1 = b5 at *
  generalize w1.heap.size + 1 + 1 + 1 + 1 = b4 at *
  generalize w1.heap.size + 1 + 1 + 1 = b3 at *
  generalize w1.heap.size + 1 + 1 = b2 at *
  generalize w1.heap.size + 1 = b1 at *
  generalize w1.heap.size = b0 at *
  generalize World.alloc _ _ = w2 at *
  obtain ⟨KL, hKL⟩ : ∃ KL : List (Nat × Obj), KL = [(b10, Obj.cells #[.slice (some ⟨b1, 0, none⟩) 1 1, .slice (some ⟨b2, 0, none⟩) 1 1, .slice none 0 0, .slice (some ⟨b3, 0, none⟩) 2 2, .slice (some ⟨b4, 0, none⟩) 1 1, .slice (some ⟨b5, 0, none⟩) 2 2, .slice (some ⟨b6, 0, none⟩) 2 2, .slice (some ⟨b7, 0, none⟩) 2 2, .slice (some ⟨b8, 0, none⟩) 1 1, .slice none 0 0, .slice none 0 0, .slice (some ⟨b9, 0, none⟩) 1 1, .slice none 0 0] 149), (b9, Obj.cells #[.int .i64 1024] 3), (b8, Obj.cells #[.int .i64 (-3)] 3), (b7, Obj.cells #[.int .i64 1024, .int .i64 (-3)] 3), (b6, Obj.cells #[.int .i64 1024, .int .i64 (-3)] 3), (b5, Obj.cells #[.int .i64 (-3), .int .i64 (-1)] 3), (b4, Obj.cells #[.int .i64 (-3)] 3), (b3, Obj.cells #[.int .i64 (-3), .int .i64 (-1)] 3), (b2, Obj.cells #[.int .i64 1024] 3), (b1, Obj.cells #[.int .i64 8] 3), (b0, Obj.cells #[.func (.func 84) #[] #[], .func (.func 85) #[] #[], .func (.func 86) #[] #[], .func (.func 87) #[] #[], .func (.func 88) #[] #[], .func (.func 89) #[] #[], .func (.func 90) #[] #[], .func (.func 91) #[] #[], .func (.func 92) #[] #[], .func (.func 93) #[] #[], .func (.func 94) #[] #[], .func (.func 95) #[] #[], .func (.func 96) #[] #[]] 148)] := ⟨_, rfl⟩
  have n10 : (b10, Obj.cells #[.slice (some ⟨b1, 0, none⟩) 1 1, .slice (some ⟨b2, 0, none⟩) 1 1, .slice none 0 0, .slice (some ⟨b3, 0, none⟩) 2 2, .slice (some ⟨b4, 0, none⟩) 1 1, .slice (some ⟨b5, 0, none⟩) 2 2, .slice (some ⟨b6, 0, none⟩) 2 2, .slice (some ⟨b7, 0, none⟩) 2 2, .slice (some ⟨b8, 0, none⟩) 1 1, .slice none 0 0, .slice none 0 0, .slice (some ⟨b9, 0, none⟩) 1 1, .slice none 0 0] 149) ∈ KL := by rw [hKL]; exact List.mem_cons_self ..
  have n0 : (b0, Obj.cells #[.func (.func 84) #[] #[], .func (.func 85) #[] #[], .func (.func 86) #[] #[], .func (.func 87) #[] #[], .func (.func 88) #[] #[], .func (.func 89) #[] #[], .func (.func 90) #[] #[], .func (.func 91) #[] #[], .func (.func 92) #[] #[], .func (.func 93) #[] #[], .func (.func 94) #[] #[], .func (.func 95) #[] #[], .func (.func 96) #[] #[]] 148) ∈ KL := by rw [hKL]; simp
  have T11 : TabAt w0 w2 M (KL ++ K) cp hp sp ds (l ++ ops) := by rw [hKL]; exact T10
  have R10 := cells_of (T11.box _ (List.mem_append_left _ n10))
  have y10 := blk_lt (T11.box _ (List.mem_append_left _ n10))
  simp only at R10 y10
  clear T10 hKL
  have HT := hid' T11
  clear T11
  go_wp2_with fail
  refine (HF.out _ _ HT.out).mono ?_
  rintro r w3 ⟨g, cur, rfl, hc, S3⟩
  have R0 := cells_of (S3.box _ (List.mem_cons_of_mem _ (List.mem_append_left _ n0)))
  have y0 := blk_lt (S3.box _ (List.mem_cons_of_mem _ (List.mem_append_left _ n0)))
  simp only at R0 y0
  have S4 := S3.alloc (wkBox hp cp sp (.slice (some ⟨g, 0, none⟩) 0 0) (.slice none 0 0))
  clear HT S3 HF R10 y10
  go_wp2_with fail
  refine (HH.out _ _ _ _ S4).mono ?_
  rintro r w5 ⟨rfl, a, c, v, E, S5, hv⟩
  have HX := HE.out
  rcases HX with ⟨he, rfl⟩ | ⟨rfl, rfl, hr, hy⟩
  · have he' : (e != 0) = true := by simpa using he
    clear HE HH HG he
    go_wp2_with fail
    go_ret
    exact ⟨rfl, S5.keep (sub_tail _ _ _ _ _)⟩
  · have hS5 := hid' S5
    obtain ⟨KB, hKB⟩ : ∃ KB, KB = (w3.heap.size, wkBox hp cp sp (.slice a n c) v) :: (E ++ ((g, Obj.cells cur 38) :: (KL ++ K))) := ⟨_, rfl⟩
    have hw : (w3.heap.size, wkBox hp cp sp (.slice a n c) v) ∈ KB := by rw [hKB]; exact m0
    have hE2 : ∀ q ∈ E, q ∈ KB := fun q hq => by rw [hKB]; exact List.mem_cons_of_mem _ (List.mem_append_left _ hq)
    rw [← hKB] at S5
    have HKB := hid' hKB
    have RW := TB.cells (w0 := w0) (cp := cp) (hp := hp) (sp := sp) hw
    have lw := blk_lt (S5.box _ hw)
    simp only at lw
    have hS1 := TB.of S5
    have HS := hid' S5
    have HG := hid' (fun W S' => HG.out W KB E v S' hv hE2 hr hy)
    clear S5 hS5 HE HH hw hE2 hKB hv hr hy
    generalize w3.heap.size = wb at *
    go_upto_region 12 with (fail)
    go_region_held3 (fun W' => TB w0 cp hp sp KB W') (first | (with_reducible assumption) | (with_reducible exact TB.of S6) | (with_reducible exact TB.drew (by with_reducible assumption)))
      ((go_at_call 98; refine (HG.out _ (by first | (with_reducible exact HS.out) | (with_reducible exact HS.out.drew))).mono ?_; rintro r w6 ⟨rfl, S6⟩))
    go_wp2_with fail
    go_ret
    exact ⟨rfl, S6.keep (by rw [HKB.out]; exact sub_tail _ _ _ _ _)⟩
set_option maxRecDepth 100000 in
set_option maxHeartbeats 4000000 in
theorem tdo_62 {w0 w : World} {M M' : List (Nat × List C)} {K : List (Nat × Obj)} {cp hp sp : Nat} {ds ds' l lo ops gv : List O} {L : List C} {e : Int} (S : TabAt w0 w M K cp hp sp ds (l ++ ops)) (hm : (hp, L) ∈ M) (hn : ops.length = 2) (hT : ∀ (i : Nat) (k : Int) (o : O), ([-3, -1] : List Int)[i]? = some k → ops[i]? = some o → isK k o.kind = true) (hH : HeldAll L ops)
    (H : ∀ w' K' wb g cur, cur.toList = ops.flatMap O.cells → (g, Obj.cells cur 38) ∈ K' → TabAt w0 w' M ((wb, wkBox hp cp sp (.slice (some ⟨g, 0, none⟩) 2 2) (.slice none 0 0)) :: K') cp hp sp ds (l ++ ops) → Calls Tryz.prog 87 #[ptr wb] w' (Gave w0 M' K' cp hp sp ds' (l ++ ops) wb 2 gv e))
    (hE : (e ≠ 0 ∧ lo = l ++ ops) ∨ (e = 0 ∧ lo = l ++ gv ∧ l.length + gv.length ≤ 200 ∧ ∀ o ∈ gv, mayO o = true)) :
    Calls Tryz.prog 44 #[ptr hp, ptr cp, ptr sp, .int .i64 62] w fun r w' => r = .returned (.int .i64 e) ∧ TabAt w0 w' M' K cp hp sp ds' lo := by
  obtain ⟨bs, hbs⟩ := fam20_is (i := 61) (f := 3) (by decide +kernel)
  have HFA := hid' (fun w' => family_at 61 3 bs hbs w')
  have HF := hid' (fun (w' : World) (g : Nat) (K' : List (Nat × Obj)) (hk : (g, Obj.cells #[.int .i64 (-3), .int .i64 (-1)] 3) ∈ K') (S' : TabAt w0 w' M K' cp hp sp ds (l ++ ops)) => S'.take (fun E A => hand_from (hp := hp) A hm [-3, -1] g (List.mem_append_right _ hk) (by rw [hn]; rfl) hT hH 2 hn))
  have HG := hid' (fun (W : World) (K' E : List (Nat × Obj)) (v : Value) (S' : TabAt w0 W M' K' cp hp sp ds' (l ++ ops)) (hv : GV E v gv) (hE : ∀ q ∈ E, q ∈ K') (hr : l.length + gv.length ≤ 200) (hy : ∀ o ∈ gv, mayO o = true) => tab_give S' 2 hn hv hE hr hy)
  have HH := hid' H
  have HE := hid' hE
  clear H hE hbs hm hT hH
  go_enter Tryz.func44, Tryz.ntmps44
  go_wp2_with fail
  refine (HFA.out _).mono ?_
  rintro r w1 ⟨rfl, X1⟩
  have S1 := S.pure X1
  have T0 := S1.alloc (.cells #[.func (.func 84) #[] #[], .func (.func 85) #[] #[], .func (.func 86) #[] #[], .func (.func 87) #[] #[], .func (.func 88) #[] #[], .func (.func 89) #[] #[], .func (.func 90) #[] #[], .func (.func 91) #[] #[], .func (.func 92) #[] #[], .func (.func 93) #[] #[], .func (.func 94) #[] #[], .func (.func 95) #[] #[], .func (.func 96) #[] #[]] 148)
  have T1 := T0.alloc (.cells #[.int .i64 8] 3)
  have T2 := T1.alloc (.cells #[.int .i64 1024] 3)
  have T3 := T2.alloc (.cells #[.int .i64 (-3), .int .i64 (-1)] 3)
  have T4 := T3.alloc (.cells #[.int .i64 (-3)] 3)
  have T5 := T4.alloc (.cells #[.int .i64 (-3), .int .i64 (-1)] 3)
  have T6 := T5.alloc (.cells #[.int .i64 1024, .int .i64 (-3)] 3)
  have T7 := T6.alloc (.cells #[.int .i64 1024, .int .i64 (-3)] 3)
  have T8 := T7.alloc (.cells #[.int .i64 (-3)] 3)
  have T9 := T8.alloc (.cells #[.int .i64 1024] 3)
  have T10 := T9.alloc (.cells #[.slice (some ⟨w1.heap.size + 1, 0, none⟩) 1 1, .slice (some ⟨w1.heap.size + 1 + 1, 0, none⟩) 1 1, .slice none 0 0, .slice (some ⟨w1.heap.size + 1 + 1 + 1, 0, none⟩) 2 2, .slice (some ⟨w1.heap.size + 1 + 1 + 1 + 1, 0, none⟩) 1 1, .slice (some ⟨w1.heap.size + 1 + 1 + 1 + 1 + 1, 0, none⟩) 2 2, .slice (some ⟨w1.heap.size + 1 + 1 + 1 + 1 + 1 + 1, 0, none⟩) 2 2, .slice (some ⟨w1.heap.size + 1 + 1 + 1 + 1 + 1 + 1 + 1, 0, none⟩) 2 2, .slice (some ⟨w1.heap.size + 1 + 1 + 1 + 1 + 1 + 1 + 1 + 1, 0, none⟩) 1 1, .slice none 0 0, .slice none 0 0, .slice (some ⟨w1.heap.size + 1 + 1 + 1 + 1 + 1 + 1 + 1 + 1 + 1, 0, none⟩) 1 1, .slice none 0 0] 149)
  simp only [World.size_alloc] at T10
  clear T0 T1 T2 T3 T4 T5 T6 T7 T8 T9 S1 S X1
  go_upto_region 5 with (fail)
  generalize w1.heap.size + 1 + 1 + 1 + 1 + 1 + 1 + 1 + 1 + 1 + 1 = b10 at *
  generalize w1.heap.size + 1 + 1 + 1 + 1 + 1 + 1 + 1 + 1 + 1 = b9 at *
  generalize w1.heap.size + 1 + 1 + 1 + 1 + 1 + 1 + 1 + 1 = b8 at *
  generalize w1.heap.size + 1 + 1 + 1 + 1 + 1 + 1 + 1 = b7 at *
  generalize w1.heap.size + 1 + 1 + 1 + 1 + 1 + 1 = b6 at *
  generalize w1.heap.size + 1 + 1 + 1 + 1 + 1 = b5 at *
  generalize w1.heap.size + 1 + 1 + 1 + 1 = b4 at *
  generalize w1.heap.size + 1 + 1 + 1 = b3 at *
  generalize w1.heap.size + 1 + 1 = b2 at *
  generalize w1.heap.size + 1 = b1 at *
  generalize w1.heap.size = b0 at *
  generalize World.alloc _ _ = w2 at *
  obtain ⟨KL, hKL⟩ : ∃ KL : List (Nat × Obj), KL = [(b10, Obj.cells #[.slice (some ⟨b1, 0, none⟩) 1 1, .slice (some ⟨b2, 0, none⟩) 1 1, .slice none 0 0, .slice (some ⟨b3, 0, none⟩) 2 2, .slice (some ⟨b4, 0, none⟩) 1 1, .slice (some ⟨b5, 0, none⟩) 2 2, .slice (some ⟨b6, 0, none⟩) 2 2, .slice (some ⟨b7, 0, none⟩) 2 2, .slice (some ⟨b8, 0, none⟩) 1 1, .slice none 0 0, .slice none 0 0, .slice (some ⟨b9, 0, none⟩) 1 1, .slice none 0 0] 149), (b9, Obj.cells #[.int .i64 1024] 3), (b8, Obj.cells #[.int .i64 (-3)] 3), (b7, Obj.cells #[.int .i64 1024, .int .i64 (-3)] 3), (b6, Obj.cells #[.int .i64 1024, .int .i64 (-3)] 3), (b5, Obj.cells #[.int .i64 (-3), .int .i64 (-1)] 3), (b4, Obj.cells #[.int .i64 (-3)] 3), (b3, Obj.cells #[.int .i64 (-3), .int .i64 (-1)] 3), (b2, Obj.cells #[.int .i64 1024] 3), (b1, Obj.cells #[.int .i64 8] 3), (b0, Obj.cells #[.func (.func 84) #[] #[], .func (.func 85) #[] #[], .func (.func 86) #[] #[], .func (.func 87) #[] #[], .func (.func 88) #[] #[], .func (.func 89) #[] #[], .func (.func 90) #[] #[], .func (.func 91) #[] #[], .func (.func 92) #[] #[], .func (.func 93) #[] #[], .func (.func 94) #[] #[], .func (.func 95) #[] #[], .func (.func 96) #[] #[]] 148)] := ⟨_, rfl⟩
  have n10 : (b10, Obj.cells #[.slice (some ⟨b1, 0, none⟩) 1 1, .slice (some ⟨b2, 0, none⟩) 1 1, .slice none 0 0, .slice (some ⟨b3, 0, none⟩) 2 2, .slice (some ⟨b4, 0, none⟩) 1 1, .slice (some ⟨b5, 0, none⟩) 2 2, .slice (some ⟨b6, 0, none⟩) 2 2, .slice (some ⟨b7, 0, none⟩) 2 2, .slice (some ⟨b8, 0, none⟩) 1 1, .slice none 0 0, .slice none 0 0, .slice (some ⟨b9, 0, none⟩) 1 1, .slice none 0 0] 149) ∈ KL := by rw [hKL]; exact List.mem_cons_self ..
  have n0 : (b0, Obj.cells #[.func (.func 84) #[] #[], .func (.func 85) #[] #[], .func (.func 86) #[] #[], .func (.func 87) #[] #[], .func (.func 88) #[] #[], .func (.func 89) #[] #[], .func (.func 90) #[] #[], .func (.func 91) #[] #[], .func (.func 92) #[] #[], .func (.func 93) #[] #[], .func (.func 94) #[] #[], .func (.func 95) #[] #[], .func (.func 96) #[] #[]] 148) ∈ KL := by rw [hKL]; simp
  have nk : (b3, Obj.cells #[.int .i64 (-3), .int .i64 (-1)] 3) ∈ KL := by rw [hKL]; simp
  have T11 : TabAt w0 w2 M (KL ++ K) cp hp sp ds (l ++ ops) := by rw [hKL]; exact T10
  have R10 := cells_of (T11.box _ (List.mem_append_left _ n10))
  have y10 := blk_lt (T11.box _ (List.mem_append_left _ n10))
  simp only at R10 y10
  clear T10 hKL
  have HT := hid' T11
  clear T11
  go_wp2_with fail
  refine (HF.out _ _ _ (List.mem_append_left _ nk) HT.out).mono ?_
  rintro r w3 ⟨g, cur, rfl, hc, S3⟩
  have R0 := cells_of (S3.box _ (List.mem_cons_of_mem _ (List.mem_append_left _ n0)))
  have y0 := blk_lt (S3.box _ (List.mem_cons_of_mem _ (List.mem_append_left _ n0)))
  simp only at R0 y0
  have S4 := S3.alloc (wkBox hp cp sp (.slice (some ⟨g, 0, none⟩) 2 2) (.slice none 0 0))
  clear HT S3 HF R10 y10
  go_wp2_with fail
  refine (HH.out _ _ _ _ _ hc m0 S4).mono ?_
  rintro r w5 ⟨rfl, a, c, v, E, S5, hv⟩
  have HX := HE.out
  rcases HX with ⟨he, rfl⟩ | ⟨rfl, rfl, hr, hy⟩
  · have he' : (e != 0) = true := by simpa using he
    clear HE HH HG he
    go_wp2_with fail
    go_ret
    exact ⟨rfl, S5.keep (sub_tail _ _ _ _ _)⟩
  · have hS5 := hid' S5
    obtain ⟨KB, hKB⟩ : ∃ KB, KB = (w3.heap.size, wkBox hp cp sp (.slice a 2 c) v) :: (E ++ ((g, Obj.cells cur 38) :: (KL ++ K))) := ⟨_, rfl⟩
    have hw : (w3.heap.size, wkBox hp cp sp (.slice a 2 c) v) ∈ KB := by rw [hKB]; exact m0
    have hE2 : ∀ q ∈ E, q ∈ KB := fun q hq => by rw [hKB]; exact List.mem_cons_of_mem _ (List.mem_append_left _ hq)
    rw [← hKB] at S5
    have HKB := hid' hKB
    have RW := TB.cells (w0 := w0) (cp := cp) (hp := hp) (sp := sp) hw
    have lw := blk_lt (S5.box _ hw)
    simp only at lw
    have hS1 := TB.of S5
    have HS := hid' S5
    have HG := hid' (fun W S' => HG.out W KB E v S' hv hE2 hr hy)
    clear S5 hS5 HE HH hw hE2 hKB hv hr hy
    generalize w3.heap.size = wb at *
    go_upto_region 12 with (fail)
    go_region_held3 (fun W' => TB w0 cp hp sp KB W') (first | (with_reducible assumption) | (with_reducible exact TB.of S6) | (with_reducible exact TB.drew (by with_reducible assumption)))
      ((go_at_call 98; refine (HG.out _ (by first | (with_reducible exact HS.out) | (with_reducible exact HS.out.drew))).mono ?_; rintro r w6 ⟨rfl, S6⟩))
    go_wp2_with fail
    go_ret
    exact ⟨rfl, S6.keep (by rw [HKB.out]; exact sub_tail _ _ _ _ _)⟩
end Go.Proofs.YtpgkjgceldleaaaGreat
/- Walks: table.Do at its operators, over whatever a method does. -/
namespace Go.Proofs.YtpgkjgceldleaaaGreat
open Go.RowKit

set_option maxRecDepth 100000 in
set_option maxHeartbeats 4000000 in
theorem tdo_63 {w0 w : World} {M M' : List (Nat × List C)} {K : List (Nat × Obj)} {cp hp sp : Nat} {ds ds' l lo ops gv : List O} {L : List C} {e : Int} (S : TabAt w0 w M K cp hp sp ds (l ++ ops)) (hm : (hp, L) ∈ M) (hn : ops.length = 1) (hT : ∀ (i : Nat) (k : Int) (o : O), ([-3] : List Int)[i]? = some k → ops[i]? = some o → isK k o.kind = true) (hH : HeldAll L ops)
    (H : ∀ w' K' wb g cur, cur.toList = ops.flatMap O.cells → (g, Obj.cells cur 38) ∈ K' → TabAt w0 w' M ((wb, wkBox hp cp sp (.slice (some ⟨g, 0, none⟩) 1 1) (.slice none 0 0)) :: K') cp hp sp ds (l ++ ops) → Calls Tryz.prog 88 #[ptr wb] w' (Gave w0 M' K' cp hp sp ds' (l ++ ops) wb 1 gv e))
    (hE : (e ≠ 0 ∧ lo = l ++ ops) ∨ (e = 0 ∧ lo = l ++ gv ∧ l.length + gv.length ≤ 200 ∧ ∀ o ∈ gv, mayO o = true)) :
    Calls Tryz.prog 44 #[ptr hp, ptr cp, ptr sp, .int .i64 63] w fun r w' => r = .returned (.int .i64 e) ∧ TabAt w0 w' M' K cp hp sp ds' lo := by
  obtain ⟨bs, hbs⟩ := fam20_is (i := 62) (f := 3) (by decide +kernel)
  have HFA := hid' (fun w' => family_at 62 3 bs hbs w')
  have HF := hid' (fun (w' : World) (g : Nat) (K' : List (Nat × Obj)) (hk : (g, Obj.cells #[.int .i64 (-3)] 3) ∈ K') (S' : TabAt w0 w' M K' cp hp sp ds (l ++ ops)) => S'.take (fun E A => hand_from (hp := hp) A hm [-3] g (List.mem_append_right _ hk) (by rw [hn]; rfl) hT hH 1 hn))
  have HG := hid' (fun (W : World) (K' E : List (Nat × Obj)) (v : Value) (S' : TabAt w0 W M' K' cp hp sp ds' (l ++ ops)) (hv : GV E v gv) (hE : ∀ q ∈ E, q ∈ K') (hr : l.length + gv.length ≤ 200) (hy : ∀ o ∈ gv, mayO o = true) => tab_give S' 1 hn hv hE hr hy)
  have HH := hid' H
  have HE := hid' hE
  clear H hE hbs hm hT hH
  go_enter Tryz.func44, Tryz.ntmps44
  go_wp2_with fail
  refine (HFA.out _).mono ?_
  rintro r w1 ⟨rfl, X1⟩
  have S1 := S.pure X1
  have T0 := S1.alloc (.cells #[.func (.func 84) #[] #[], .func (.func 85) #[] #[], .func (.func 86) #[] #[], .func (.func 87) #[] #[], .func (.func 88) #[] #[], .func (.func 89) #[] #[], .func (.func 90) #[] #[], .func (.func 91) #[] #[], .func (.func 92) #[] #[], .func (.func 93) #[] #[], .func (.func 94) #[] #[], .func (.func 95) #[] #[], .func (.func 96) #[] #[]] 148)
  have T1 := T0.alloc (.cells #[.int .i64 8] 3)
  have T2 := T1.alloc (.cells #[.int .i64 1024] 3)
  have T3 := T2.alloc (.cells #[.int .i64 (-3), .int .i64 (-1)] 3)
  have T4 := T3.alloc (.cells #[.int .i64 (-3)] 3)
  have T5 := T4.alloc (.cells #[.int .i64 (-3), .int .i64 (-1)] 3)
  have T6 := T5.alloc (.cells #[.int .i64 1024, .int .i64 (-3)] 3)
  have T7 := T6.alloc (.cells #[.int .i64 1024, .int .i64 (-3)] 3)
  have T8 := T7.alloc (.cells #[.int .i64 (-3)] 3)
  have T9 := T8.alloc (.cells #[.int .i64 1024] 3)
  have T10 := T9.alloc (.cells #[.slice (some ⟨w1.heap.size + 1, 0, none⟩) 1 1, .slice (some ⟨w1.heap.size + 1 + 1, 0, none⟩) 1 1, .slice none 0 0, .slice (some ⟨w1.heap.size + 1 + 1 + 1, 0, none⟩) 2 2, .slice (some ⟨w1.heap.size + 1 + 1 + 1 + 1, 0, none⟩) 1 1, .slice (some ⟨w1.heap.size + 1 + 1 + 1 + 1 + 1, 0, none⟩) 2 2, .slice (some ⟨w1.heap.size + 1 + 1 + 1 + 1 + 1 + 1, 0, none⟩) 2 2, .slice (some ⟨w1.heap.size + 1 + 1 + 1 + 1 + 1 + 1 + 1, 0, none⟩) 2 2, .slice (some ⟨w1.heap.size + 1 + 1 + 1 + 1 + 1 + 1 + 1 + 1, 0, none⟩) 1 1, .slice none 0 0, .slice none 0 0, .slice (some ⟨w1.heap.size + 1 + 1 + 1 + 1 + 1 + 1 + 1 + 1 + 1, 0, none⟩) 1 1, .slice none 0 0] 149)
  simp only [World.size_alloc] at T10
  clear T0 T1 T2 T3 T4 T5 T6 T7 T8 T9 S1 S X1
  go_upto_region 5 with (fail)
  generalize w1.heap.size + 1 + 1 + 1 + 1 + 1 + 1 + 1 + 1 + 1 + 1 = b10 at *
  generalize w1.heap.size + 1 + 1 + 1 + 1 + 1 + 1 + 1 + 1 + 1 = b9 at *
  generalize w1.heap.size + 1 + 1 + 1 + 1 + 1 + 1 + 1 + 1 = b8 at *
  generalize w1.heap.size + 1 + 1 + 1 + 1 + 1 + 1 + 1 = b7 at *
  generalize w1.heap.size + 1 + 1 + 1 + 1 + 1 + 1 = b6 at *
  generalize w1.heap.size + 1 + 1 + 1 + 1 + 1 = b5 at *
  generalize w1.heap.size + 1 + 1 + 1 + 1 = b4 at *
  generalize w1.heap.size + 1 + 1 + 1 = b3 at *
  generalize w1.heap.size + 1 + 1 = b2 at *
  generalize w1.heap.size + 1 = b1 at *
  generalize w1.heap.size = b0 at *
  generalize World.alloc _ _ = w2 at *
  obtain ⟨KL, hKL⟩ : ∃ KL : List (Nat × Obj), KL = [(b10, Obj.cells #[.slice (some ⟨b1, 0, none⟩) 1 1, .slice (some ⟨b2, 0, none⟩) 1 1, .slice none 0 0, .slice (some ⟨b3, 0, none⟩) 2 2, .slice (some ⟨b4, 0, none⟩) 1 1, .slice (some ⟨b5, 0, none⟩) 2 2, .slice (some ⟨b6, 0, none⟩) 2 2, .slice (some ⟨b7, 0, none⟩) 2 2, .slice (some ⟨b8, 0, none⟩) 1 1, .slice none 0 0, .slice none 0 0, .slice (some ⟨b9, 0, none⟩) 1 1, .slice none 0 0] 149), (b9, Obj.cells #[.int .i64 1024] 3), (b8, Obj.cells #[.int .i64 (-3)] 3), (b7, Obj.cells #[.int .i64 1024, .int .i64 (-3)] 3), (b6, Obj.cells #[.int .i64 1024, .int .i64 (-3)] 3), (b5, Obj.cells #[.int .i64 (-3), .int .i64 (-1)] 3), (b4, Obj.cells #[.int .i64 (-3)] 3), (b3, Obj.cells #[.int .i64 (-3), .int .i64 (-1)] 3), (b2, Obj.cells #[.int .i64 1024] 3), (b1, Obj.cells #[.int .i64 8] 3), (b0, Obj.cells #[.func (.func 84) #[] #[], .func (.func 85) #[] #[], .func (.func 86) #[] #[], .func (.func 87) #[] #[], .func (.func 88) #[] #[], .func (.func 89) #[] #[], .func (.func 90) #[] #[], .func (.func 91) #[] #[], .func (.func 92) #[] #[], .func (.func 93) #[] #[], .func (.func 94) #[] #[], .func (.func 95) #[] #[], .func (.func 96) #[] #[]] 148)] := ⟨_, rfl⟩
  have n10 : (b10, Obj.cells #[.slice (some ⟨b1, 0, none⟩) 1 1, .slice (some ⟨b2, 0, none⟩) 1 1, .slice none 0 0, .slice (some ⟨b3, 0, none⟩) 2 2, .slice (some ⟨b4, 0, none⟩) 1 1, .slice (some ⟨b5, 0, none⟩) 2 2, .slice (some ⟨b6, 0, none⟩) 2 2, .slice (some ⟨b7, 0, none⟩) 2 2, .slice (some ⟨b8, 0, none⟩) 1 1, .slice none 0 0, .slice none 0 0, .slice (some ⟨b9, 0, none⟩) 1 1, .slice none 0 0] 149) ∈ KL := by rw [hKL]; exact List.mem_cons_self ..
  have n0 : (b0, Obj.cells #[.func (.func 84) #[] #[], .func (.func 85) #[] #[], .func (.func 86) #[] #[], .func (.func 87) #[] #[], .func (.func 88) #[] #[], .func (.func 89) #[] #[], .func (.func 90) #[] #[], .func (.func 91) #[] #[], .func (.func 92) #[] #[], .func (.func 93) #[] #[], .func (.func 94) #[] #[], .func (.func 95) #[] #[], .func (.func 96) #[] #[]] 148) ∈ KL := by rw [hKL]; simp
  have nk : (b4, Obj.cells #[.int .i64 (-3)] 3) ∈ KL := by rw [hKL]; simp
  have T11 : TabAt w0 w2 M (KL ++ K) cp hp sp ds (l ++ ops) := by rw [hKL]; exact T10
  have R10 := cells_of (T11.box _ (List.mem_append_left _ n10))
  have y10 := blk_lt (T11.box _ (List.mem_append_left _ n10))
  simp only at R10 y10
  clear T10 hKL
  have HT := hid' T11
  clear T11
  go_wp2_with fail
  refine (HF.out _ _ _ (List.mem_append_left _ nk) HT.out).mono ?_
  rintro r w3 ⟨g, cur, rfl, hc, S3⟩
  have R0 := cells_of (S3.box _ (List.mem_cons_of_mem _ (List.mem_append_left _ n0)))
  have y0 := blk_lt (S3.box _ (List.mem_cons_of_mem _ (List.mem_append_left _ n0)))
  simp only at R0 y0
  have S4 := S3.alloc (wkBox hp cp sp (.slice (some ⟨g, 0, none⟩) 1 1) (.slice none 0 0))
  clear HT S3 HF R10 y10
  go_wp2_with fail
  refine (HH.out _ _ _ _ _ hc m0 S4).mono ?_
  rintro r w5 ⟨rfl, a, c, v, E, S5, hv⟩
  have HX := HE.out
  rcases HX with ⟨he, rfl⟩ | ⟨rfl, rfl, hr, hy⟩
  · have he' : (e != 0) = true := by simpa using he
    clear HE HH HG he
    go_wp2_with fail
    go_ret
    exact ⟨rfl, S5.keep (sub_tail _ _ _ _ _)⟩
  · have hS5 := hid' S5
    obtain ⟨KB, hKB⟩ : ∃ KB, KB = (w3.heap.size, wkBox hp cp sp (.slice a 1 c) v) :: (E ++ ((g, Obj.cells cur 38) :: (KL ++ K))) := ⟨_, rfl⟩
    have hw : (w3.heap.size, wkBox hp cp sp (.slice a 1 c) v) ∈ KB := by rw [hKB]; exact m0
    have hE2 : ∀ q ∈ E, q ∈ KB := fun q hq => by rw [hKB]; exact List.mem_cons_of_mem _ (List.mem_append_left _ hq)
    rw [← hKB] at S5
    have HKB := hid' hKB
    have RW := TB.cells (w0 := w0) (cp := cp) (hp := hp) (sp := sp) hw
    have lw := blk_lt (S5.box _ hw)
    simp only at lw
    have hS1 := TB.of S5
    have HS := hid' S5
    have HG := hid' (fun W S' => HG.out W KB E v S' hv hE2 hr hy)
    clear S5 hS5 HE HH hw hE2 hKB hv hr hy
    generalize w3.heap.size = wb at *
    go_upto_region 12 with (fail)
    go_region_held3 (fun W' => TB w0 cp hp sp KB W') (first | (with_reducible assumption) | (with_reducible exact TB.of S6) | (with_reducible exact TB.drew (by with_reducible assumption)))
      ((go_at_call 98; refine (HG.out _ (by first | (with_reducible exact HS.out) | (with_reducible exact HS.out.drew))).mono ?_; rintro r w6 ⟨rfl, S6⟩))
    go_wp2_with fail
    go_ret
    exact ⟨rfl, S6.keep (by rw [HKB.out]; exact sub_tail _ _ _ _ _)⟩
set_option maxRecDepth 100000 in
set_option maxHeartbeats 4000000 in
theorem tdo_64 {w0 w : World} {M M' : List (Nat × List C)} {K : List (Nat × Obj)} {cp hp sp : Nat} {ds ds' l lo ops gv : List O} {L : List C} {e : Int} (S : TabAt w0 w M K cp hp sp ds (l ++ ops)) (hm : (hp, L) ∈ M) (hn : ops.length = 2) (hT : ∀ (i : Nat) (k : Int) (o : O), ([-3, -1] : List Int)[i]? = some k → ops[i]? = some o → isK k o.kind = true) (hH : HeldAll L ops)
    (H : ∀ w' K' wb g cur, cur.toList = ops.flatMap O.cells → (g, Obj.cells cur 38) ∈ K' → TabAt w0 w' M ((wb, wkBox hp cp sp (.slice (some ⟨g, 0, none⟩) 2 2) (.slice none 0 0)) :: K') cp hp sp ds (l ++ ops) → Calls Tryz.prog 89 #[ptr wb] w' (Gave w0 M' K' cp hp sp ds' (l ++ ops) wb 2 gv e))
    (hE : (e ≠ 0 ∧ lo = l ++ ops) ∨ (e = 0 ∧ lo = l ++ gv ∧ l.length + gv.length ≤ 200 ∧ ∀ o ∈ gv, mayO o = true)) :
    Calls Tryz.prog 44 #[ptr hp, ptr cp, ptr sp, .int .i64 64] w fun r w' => r = .returned (.int .i64 e) ∧ TabAt w0 w' M' K cp hp sp ds' lo := by
  obtain ⟨bs, hbs⟩ := fam20_is (i := 63) (f := 3) (by decide +kernel)
  have HFA := hid' (fun w' => family_at 63 3 bs hbs w')
  have HF := hid' (fun (w' : World) (g : Nat) (K' : List (Nat × Obj)) (hk : (g, Obj.cells #[.int .i64 (-3), .int .i64 (-1)] 3) ∈ K') (S' : TabAt w0 w' M K' cp hp sp ds (l ++ ops)) => S'.take (fun E A => hand_from (hp := hp) A hm [-3, -1] g (List.mem_append_right _ hk) (by rw [hn]; rfl) hT hH 2 hn))
  have HG := hid' (fun (W : World) (K' E : List (Nat × Obj)) (v : Value) (S' : TabAt w0 W M' K' cp hp sp ds' (l ++ ops)) (hv : GV E v gv) (hE : ∀ q ∈ E, q ∈ K') (hr : l.length + gv.length ≤ 200) (hy : ∀ o ∈ gv, mayO o = true) => tab_give S' 2 hn hv hE hr hy)
  have HH := hid' H
  have HE := hid' hE
  clear H hE hbs hm hT hH
  go_enter Tryz.func44, Tryz.ntmps44
  go_wp2_with fail
  refine (HFA.out _).mono ?_
  rintro r w1 ⟨rfl, X1⟩
  have S1 := S.pure X1
  have T0 := S1.alloc (.cells #[.func (.func 84) #[] #[], .func (.func 85) #[] #[], .func (.func 86) #[] #[], .func (.func 87) #[] #[], .func (.func 88) #[] #[], .func (.func 89) #[] #[], .func (.func 90) #[] #[], .func (.func 91) #[] #[], .func (.func 92) #[] #[], .func (.func 93) #[] #[], .func (.func 94) #[] #[], .func (.func 95) #[] #[], .func (.func 96) #[] #[]] 148)
  have T1 := T0.alloc (.cells #[.int .i64 8] 3)
  have T2 := T1.alloc (.cells #[.int .i64 1024] 3)
  have T3 := T2.alloc (.cells #[.int .i64 (-3), .int .i64 (-1)] 3)
  have T4 := T3.alloc (.cells #[.int .i64 (-3)] 3)
  have T5 := T4.alloc (.cells #[.int .i64 (-3), .int .i64 (-1)] 3)
  have T6 := T5.alloc (.cells #[.int .i64 1024, .int .i64 (-3)] 3)
  have T7 := T6.alloc (.cells #[.int .i64 1024, .int .i64 (-3)] 3)
  have T8 := T7.alloc (.cells #[.int .i64 (-3)] 3)
  have T9 := T8.alloc (.cells #[.int .i64 1024] 3)
  have T10 := T9.alloc (.cells #[.slice (some ⟨w1.heap.size + 1, 0, none⟩) 1 1, .slice (some ⟨w1.heap.size + 1 + 1, 0, none⟩) 1 1, .slice none 0 0, .slice (some ⟨w1.heap.size + 1 + 1 + 1, 0, none⟩) 2 2, .slice (some ⟨w1.heap.size + 1 + 1 + 1 + 1, 0, none⟩) 1 1, .slice (some ⟨w1.heap.size + 1 + 1 + 1 + 1 + 1, 0, none⟩) 2 2, .slice (some ⟨w1.heap.size + 1 + 1 + 1 + 1 + 1 + 1, 0, none⟩) 2 2, .slice (some ⟨w1.heap.size + 1 + 1 + 1 + 1 + 1 + 1 + 1, 0, none⟩) 2 2, .slice (some ⟨w1.heap.size + 1 + 1 + 1 + 1 + 1 + 1 + 1 + 1, 0, none⟩) 1 1, .slice none 0 0, .slice none 0 0, .slice (some ⟨w1.heap.size + 1 + 1 + 1 + 1 + 1 + 1 + 1 + 1 + 1, 0, none⟩) 1 1, .slice none 0 0] 149)
  simp only [World.size_alloc] at T10
  clear T0 T1 T2 T3 T4 T5 T6 T7 T8 T9 S1 S X1
  go_upto_region 5 with (fail)
  generalize w1.heap.size + 1 + 1 + 1 + 1 + 1 + 1 + 1 + 1 + 1 + 1 = b10 at *
  generalize w1.heap.size + 1 + 1 + 1 + 1 + 1 + 1 + 1 + 1 + 1 = b9 at *
  generalize w1.heap.size + 1 + 1 + 1 + 1 + 1 + 1 + 1 + 1 = b8 at *
  generalize w1.heap.size + 1 + 1 + 1 + 1 + 1 + 1 + 1 = b7 at *
  generalize w1.heap.size + 1 + 1 + 1 + 1 + 1 + 1 = b6 at *
  generalize w1.heap.size + 1 + 1 + 1 + 1 + 1 = b5 at *
  generalize w1.heap.size + 1 + 1 + 1 + 1 = b4 at *
  generalize w1.heap.size + 1 + 1 + 1 = b3 at *
  generalize w1.heap.size + 1 + 1 = b2 at *
  generalize w1.heap.size + 1 = b1 at *
  generalize w1.heap.size = b0 at *
  generalize World.alloc _ _ = w2 at *
  obtain ⟨KL, hKL⟩ : ∃ KL : List (Nat × Obj), KL = [(b10, Obj.cells #[.slice (some ⟨b1, 0, none⟩) 1 1, .slice (some ⟨b2, 0, none⟩) 1 1, .slice none 0 0, .slice (some ⟨b3, 0, none⟩) 2 2, .slice (some ⟨b4, 0, none⟩) 1 1, .slice (some ⟨b5, 0, none⟩) 2 2, .slice (some ⟨b6, 0, none⟩) 2 2, .slice (some ⟨b7, 0, none⟩) 2 2, .slice (some ⟨b8, 0, none⟩) 1 1, .slice none 0 0, .slice none 0 0, .slice (some ⟨b9, 0, none⟩) 1 1, .slice none 0 0] 149), (b9, Obj.cells #[.int .i64 1024] 3), (b8, Obj.cells #[.int .i64 (-3)] 3), (b7, Obj.cells #[.int .i64 1024, .int .i64 (-3)] 3), (b6, Obj.cells #[.int .i64 1024, .int .i64 (-3)] 3), (b5, Obj.cells #[.int .i64 (-3), .int .i64 (-1)] 3), (b4, Obj.cells #[.int .i64 (-3)] 3), (b3, Obj.cells #[.int .i64 (-3), .int .i64 (-1)] 3), (b2, Obj.cells #[.int .i64 1024] 3), (b1, Obj.cells #[.int .i64 8] 3), (b0, Obj.cells #[.func (.func 84) #[] #[], .func (.func 85) #[] #[], .func (.func 86) #[] #[], .func (.func 87) #[] #[], .func (.func 88) #[] #[], .func (.func 89) #[] #[], .func (.func 90) #[] #[], .func (.func 91) #[] #[], .func (.func 92) #[] #[], .func (.func 93) #[] #[], .func (.func 94) #[] #[], .func (.func 95) #[] #[], .func (.func 96) #[] #[]] 148)] := ⟨_, rfl⟩
  have n10 : (b10, Obj.cells #[.slice (some ⟨b1, 0, none⟩) 1 1, .slice (some ⟨b2, 0, none⟩) 1 1, .slice none 0 0, .slice (some ⟨b3, 0, none⟩) 2 2, .slice (some ⟨b4, 0, none⟩) 1 1, .slice (some ⟨b5, 0, none⟩) 2 2, .slice (some ⟨b6, 0, none⟩) 2 2, .slice (some ⟨b7, 0, none⟩) 2 2, .slice (some ⟨b8, 0, none⟩) 1 1, .slice none 0 0, .slice none 0 0, .slice (some ⟨b9, 0, none⟩) 1 1, .slice none 0 0] 149) ∈ KL := by rw [hKL]; exact List.mem_cons_self ..
  have n0 : (b0, Obj.cells #[.func (.func 84) #[] #[], .func (.func 85) #[] #[], .func (.func 86) #[] #[], .func (.func 87) #[] #[], .func (.func 88) #[] #[], .func (.func 89) #[] #[], .func (.func 90) #[] #[], .func (.func 91) #[] #[], .func (.func 92) #[] #[], .func (.func 93) #[] #[], .func (.func 94) #[] #[], .func (.func 95) #[] #[], .func (.func 96) #[] #[]] 148) ∈ KL := by rw [hKL]; simp
  have nk : (b5, Obj.cells #[.int .i64 (-3), .int .i64 (-1)] 3) ∈ KL := by rw [hKL]; simp
  have T11 : TabAt w0 w2 M (KL ++ K) cp hp sp ds (l ++ ops) := by rw [hKL]; exact T10
  have R10 := cells_of (T11.box _ (List.mem_append_left _ n10))
  have y10 := blk_lt (T11.box _ (List.mem_append_left _ n10))
  simp only at R10 y10
  clear T10 hKL
  have HT := hid' T11
  clear T11
  go_wp2_with fail
  refine (HF.out _ _ _ (List.mem_append_left _ nk) HT.out).mono ?_
  rintro r w3 ⟨g, cur, rfl, hc, S3⟩
  have R0 := cells_of (S3.box _ (List.mem_cons_of_mem _ (List.mem_append_left _ n0)))
  have y0 := blk_lt (S3.box _ (List.mem_cons_of_mem _ (List.mem_append_left _ n0)))
  simp only at R0 y0
  have S4 := S3.alloc (wkBox hp cp sp (.slice (some ⟨g, 0, none⟩) 2 2) (.slice none 0 0))
  clear HT S3 HF R10 y10
  go_wp2_with fail
  refine (HH.out _ _ _ _ _ hc m0 S4).mono ?_
  rintro r w5 ⟨rfl, a, c, v, E, S5, hv⟩
  have HX := HE.out
  rcases HX with ⟨he, rfl⟩ | ⟨rfl, rfl, hr, hy⟩
  · have he' : (e != 0) = true := by simpa using he
    clear HE HH HG he
    go_wp2_with fail
    go_ret
    exact ⟨rfl, S5.keep (sub_tail _ _ _ _ _)⟩
  · have hS5 := hid' S5
    obtain ⟨KB, hKB⟩ : ∃ KB, KB = (w3.heap.size, wkBox hp cp sp (.slice a 2 c) v) :: (E ++ ((g, Obj.cells cur 38) :: (KL ++ K))) := ⟨_, rfl⟩
    have hw : (w3.heap.size, wkBox hp cp sp (.slice a 2 c) v) ∈ KB := by rw [hKB]; exact m0
    have hE2 : ∀ q ∈ E, q ∈ KB := fun q hq => by rw [hKB]; exact List.mem_cons_of_mem _ (List.mem_append_left _ hq)
    rw [← hKB] at S5
    have HKB := hid' hKB
    have RW := TB.cells (w0 := w0) (cp := cp) (hp := hp) (sp := sp) hw
    have lw := blk_lt (S5.box _ hw)
    simp only at lw
    have hS1 := TB.of S5
    have HS := hid' S5
    have HG := hid' (fun W S' => HG.out W KB E v S' hv hE2 hr hy)
    clear S5 hS5 HE HH hw hE2 hKB hv hr hy
    generalize w3.heap.size = wb at *
    go_upto_region 12 with (fail)
    go_region_held3 (fun W' => TB w0 cp hp sp KB W') (first | (with_reducible assumption) | (with_reducible exact TB.of S6) | (with_reducible exact TB.drew (by with_reducible assumption)))
      ((go_at_call 98; refine (HG.out _ (by first | (with_reducible exact HS.out) | (with_reducible exact HS.out.drew))).mono ?_; rintro r w6 ⟨rfl, S6⟩))
    go_wp2_with fail
    go_ret
    exact ⟨rfl, S6.keep (by rw [HKB.out]; exact sub_tail _ _ _ _ _)⟩
set_option maxRecDepth 100000 in
set_option maxHeartbeats 4000000 in
theorem tdo_65 {w0 w : World} {M M' : List (Nat × List C)} {K : List (Nat × Obj)} {cp hp sp : Nat} {ds ds' l lo ops gv : List O} {L : List C} {e : Int} (S : TabAt w0 w M K cp hp sp ds (l ++ ops)) (hm : (hp, L) ∈ M) (hn : ops.length = 2) (hT : ∀ (i : Nat) (k : Int) (o : O), ([1024, -3] : List Int)[i]? = some k → ops[i]? = some o → isK k o.kind = true) (hH : HeldAll L ops)
    (H : ∀ w' K' wb g cur, cur.toList = ops.flatMap O.cells → (g, Obj.cells cur 38) ∈ K' → TabAt w0 w' M ((wb, wkBox hp cp sp (.slice (some ⟨g, 0, none⟩) 2 2) (.slice none 0 0)) :: K') cp hp sp ds (l ++ ops) → Calls Tryz.prog 90 #[ptr wb] w' (Gave w0 M' K' cp hp sp ds' (l ++ ops) wb 2 gv e))
    (hE : (e ≠ 0 ∧ lo = l ++ ops) ∨ (e = 0 ∧ lo = l ++ gv ∧ l.length + gv.length ≤ 200 ∧ ∀ o ∈ gv, mayO o = true)) :
    Calls Tryz.prog 44 #[ptr hp, ptr cp, ptr sp, .int .i64 65] w fun r w' => r = .returned (.int .i64 e) ∧ TabAt w0 w' M' K cp hp sp ds' lo := by
  obtain ⟨bs, hbs⟩ := fam20_is (i := 64) (f := 3) (by decide +kernel)
  have HFA := hid' (fun w' => family_at 64 3 bs hbs w')
  have HF := hid' (fun (w' : World) (g : Nat) (K' : List (Nat × Obj)) (hk : (g, Obj.cells #[.int .i64 1024, .int .i64 (-3)] 3) ∈ K') (S' : TabAt w0 w' M K' cp hp sp ds (l ++ ops)) => S'.take (fun E A => hand_from (hp := hp) A hm [1024, -3] g (List.mem_append_right _ hk) (by rw [hn]; rfl) hT hH 2 hn))
  have HG := hid' (fun (W : World) (K' E : List (Nat × Obj)) (v : Value) (S' : TabAt w0 W M' K' cp hp sp ds' (l ++ ops)) (hv : GV E v gv) (hE : ∀ q ∈ E, q ∈ K') (hr : l.length + gv.length ≤ 200) (hy : ∀ o ∈ gv, mayO o = true) => tab_give S' 2 hn hv hE hr hy)
  have HH := hid' H
  have HE := hid' hE
  clear H hE hbs hm hT hH
  go_enter Tryz.func44, Tryz.ntmps44
  go_wp2_with fail
  refine (HFA.out _).mono ?_
  rintro r w1 ⟨rfl, X1⟩
  have S1 := S.pure X1
  have T0 := S1.alloc (.cells #[.func (.func 84) #[] #[], .func (.func 85) #[] #[], .func (.func 86) #[] #[], .func (.func 87) #[] #[], .func (.func 88) #[] #[], .func (.func 89) #[] #[], .func (.func 90) #[] #[], .func (.func 91) #[] #[], .func (.func 92) #[] #[], .func (.func 93) #[] #[], .func (.func 94) #[] #[], .func (.func 95) #[] #[], .func (.func 96) #[] #[]] 148)
  have T1 := T0.alloc (.cells #[.int .i64 8] 3)
  have T2 := T1.alloc (.cells #[.int .i64 1024] 3)
  have T3 := T2.alloc (.cells #[.int .i64 (-3), .int .i64 (-1)] 3)
  have T4 := T3.alloc (.cells #[.int .i64 (-3)] 3)
  have T5 := T4.alloc (.cells #[.int .i64 (-3), .int .i64 (-1)] 3)
  have T6 := T5.alloc (.cells #[.int .i64 1024, .int .i64 (-3)] 3)
  have T7 := T6.alloc (.cells #[.int .i64 1024, .int .i64 (-3)] 3)
  have T8 := T7.alloc (.cells #[.int .i64 (-3)] 3)
  have T9 := T8.alloc (.cells #[.int .i64 1024] 3)
  have T10 := T9.alloc (.cells #[.slice (some ⟨w1.heap.size + 1, 0, none⟩) 1 1, .slice (some ⟨w1.heap.size + 1 + 1, 0, none⟩) 1 1, .slice none 0 0, .slice (some ⟨w1.heap.size + 1 + 1 + 1, 0, none⟩) 2 2, .slice (some ⟨w1.heap.size + 1 + 1 + 1 + 1, 0, none⟩) 1 1, .slice (some ⟨w1.heap.size + 1 + 1 + 1 + 1 + 1, 0, none⟩) 2 2, .slice (some ⟨w1.heap.size + 1 + 1 + 1 + 1 + 1 + 1, 0, none⟩) 2 2, .slice (some ⟨w1.heap.size + 1 + 1 + 1 + 1 + 1 + 1 + 1, 0, none⟩) 2 2, .slice (some ⟨w1.heap.size + 1 + 1 + 1 + 1 + 1 + 1 + 1 + 1, 0, none⟩) 1 1, .slice none 0 0, .slice none 0 0, .slice (some ⟨w1.heap.size + 1 + 1 + 1 + 1 + 1 + 1 + 1 + 1 + 1, 0, none⟩) 1 1, .slice none 0 0] 149)
  simp only [World.size_alloc] at T10
  clear T0 T1 T2 T3 T4 T5 T6 T7 T8 T9 S1 S X1
  go_upto_region 5 with (fail)
  generalize w1.heap.size + 1 + 1 + 1 + 1 + 1 + 1 + 1 + 1 + 1 + 1 = b10 at *
  generalize w1.heap.size + 1 + 1 + 1 + 1 + 1 + 1 + 1 + 1 + 1 = b9 at *
  generalize w1.heap.size + 1 + 1 + 1 + 1 + 1 + 1 + 1 + 1 = b8 at *
  generalize w1.heap.size + 1 + 1 + 1 + 1 + 1 + 1 + 1 = b7 at *
  generalize w1.heap.size + 1 + 1 + 1 + 1 + 1 + 1 = b6 at *
  generalize w1.heap.size + 1 + 1 + 1 + 1 + 1 = b5 at *
  generalize w1.heap.size + 1 + 1 + 1 + 1 = b4 at *
  generalize w1.heap.size + 1 + 1 + 1 = b3 at *
  generalize w1.heap.size + 1 + 1 = b2 at *
  generalize w1.heap.size + 1 = b1 at *
  generalize w1.heap.size = b0 at *
  generalize World.alloc _ _ = w2 at *
  obtain ⟨KL, hKL⟩ : ∃ KL : List (Nat × Obj), KL = [(b10, Obj.cells #[.slice (some ⟨b1, 0, none⟩) 1 1, .slice (some ⟨b2, 0, none⟩) 1 1, .slice none 0 0, .slice (some ⟨b3, 0, none⟩) 2 2, .slice (some ⟨b4, 0, none⟩) 1 1, .slice (some ⟨b5, 0, none⟩) 2 2, .slice (some ⟨b6, 0, none⟩) 2 2, .slice (some ⟨b7, 0, none⟩) 2 2, .slice (some ⟨b8, 0, none⟩) 1 1, .slice none 0 0, .slice none 0 0, .slice (some ⟨b9, 0, none⟩) 1 1, .slice none 0 0] 149), (b9, Obj.cells #[.int .i64 1024] 3), (b8, Obj.cells #[.int .i64 (-3)] 3), (b7, Obj.cells #[.int .i64 1024, .int .i64 (-3)] 3), (b6, Obj.cells #[.int .i64 1024, .int .i64 (-3)] 3), (b5, Obj.cells #[.int .i64 (-3), .int .i64 (-1)] 3), (b4, Obj.cells #[.int .i64 (-3)] 3), (b3, Obj.cells #[.int .i64 (-3), .int .i64 (-1)] 3), (b2, Obj.cells #[.int .i64 1024] 3), (b1, Obj.cells #[.int .i64 8] 3), (b0, Obj.cells #[.func (.func 84) #[] #[], .func (.func 85) #[] #[], .func (.func 86) #[] #[], .func (.func 87) #[] #[], .func (.func 88) #[] #[], .func (.func 89) #[] #[], .func (.func 90) #[] #[], .func (.func 91) #[] #[], .func (.func 92) #[] #[], .func (.func 93) #[] #[], .func (.func 94) #[] #[], .func (.func 95) #[] #[], .func (.func 96) #[] #[]] 148)] := ⟨_, rfl⟩
  have n10 : (b10, Obj.cells #[.slice (some ⟨b1, 0, none⟩) 1 1, .slice (some ⟨b2, 0, none⟩) 1 1, .slice none 0 0, .slice (some ⟨b3, 0, none⟩) 2 2, .slice (some ⟨b4, 0, none⟩) 1 1, .slice (some ⟨b5, 0, none⟩) 2 2, .slice (some ⟨b6, 0, none⟩) 2 2, .slice (some ⟨b7, 0, none⟩) 2 2, .slice (some ⟨b8, 0, none⟩) 1 1, .slice none 0 0, .slice none 0 0, .slice (some ⟨b9, 0, none⟩) 1 1, .slice none 0 0] 149) ∈ KL := by rw [hKL]; exact List.mem_cons_self ..
  have n0 : (b0, Obj.cells #[.func (.func 84) #[] #[], .func (.func 85) #[] #[], .func (.func 86) #[] #[], .func (.func 87) #[] #[], .func (.func 88) #[] #[], .func (.func 89) #[] #[], .func (.func 90) #[] #[], .func (.func 91) #[] #[], .func (.func 92) #[] #[], .func (.func 93) #[] #[], .func (.func 94) #[] #[], .func (.func 95) #[] #[], .func (.func 96) #[] #[]] 148) ∈ KL := by rw [hKL]; simp
  have nk : (b6, Obj.cells #[.int .i64 1024, .int .i64 (-3)] 3) ∈ KL := by rw [hKL]; simp
  have T11 : TabAt w0 w2 M (KL ++ K) cp hp sp ds (l ++ ops) := by rw [hKL]; exact T10
  have R10 := cells_of (T11.box _ (List.mem_append_left _ n10))
  have y10 := blk_lt (T11.box _ (List.mem_append_left _ n10))
  simp only at R10 y10
  clear T10 hKL
  have HT := hid' T11
  clear T11
  go_wp2_with fail
  refine (HF.out _ _ _ (List.mem_append_left _ nk) HT.out).mono ?_
  rintro r w3 ⟨g, cur, rfl, hc, S3⟩
  have R0 := cells_of (S3.box _ (List.mem_cons_of_mem _ (List.mem_append_left _ n0)))
  have y0 := blk_lt (S3.box _ (List.mem_cons_of_mem _ (List.mem_append_left _ n0)))
  simp only at R0 y0
  have S4 := S3.alloc (wkBox hp cp sp (.slice (some ⟨g, 0, none⟩) 2 2) (.slice none 0 0))
  clear HT S3 HF R10 y10
  go_wp2_with fail
  refine (HH.out _ _ _ _ _ hc m0 S4).mono ?_
  rintro r w5 ⟨rfl, a, c, v, E, S5, hv⟩
  have HX := HE.out
  rcases HX with ⟨he, rfl⟩ | ⟨rfl, rfl, hr, hy⟩
  · have he' : (e != 0) = true := by simpa using he
    clear HE HH HG he
    go_wp2_with fail
    go_ret
    exact ⟨rfl, S5.keep (sub_tail _ _ _ _ _)⟩
  · have hS5 := hid' S5
    obtain ⟨KB, hKB⟩ : ∃ KB, KB = (w3.heap.size, wkBox hp cp sp (.slice a 2 c) v) :: (E ++ ((g, Obj.cells cur 38) :: (KL ++ K))) := ⟨_, rfl⟩
    have hw : (w3.heap.size, wkBox hp cp sp (.slice a 2 c) v) ∈ KB := by rw [hKB]; exact m0
    have hE2 : ∀ q ∈ E, q ∈ KB := fun q hq => by rw [hKB]; exact List.mem_cons_of_mem _ (List.mem_append_left _ hq)
    rw [← hKB] at S5
    have HKB := hid' hKB
    have RW := TB.cells (w0 := w0) (cp := cp) (hp := hp) (sp := sp) hw
    have lw := blk_lt (S5.box _ hw)
    simp only at lw
    have hS1 := TB.of S5
    have HS := hid' S5
    have HG := hid' (fun W S' => HG.out W KB E v S' hv hE2 hr hy)
    clear S5 hS5 HE HH hw hE2 hKB hv hr hy
    generalize w3.heap.size = wb at *
    go_upto_region 12 with (fail)
    go_region_held3 (fun W' => TB w0 cp hp sp KB W') (first | (with_reducible assumption) | (with_reducible exact TB.of S6) | (with_reducible exact TB.drew (by with_reducible assumption)))
      ((go_at_call 98; refine (HG.out _ (by first | (with_reducible exact HS.out) | (with_reducible exact HS.out.drew))).mono ?_; rintro r w6 ⟨rfl, S6⟩))
    go_wp2_with fail
    go_ret
    exact ⟨rfl, S6.keep (by rw [HKB.out]; exact sub_tail _ _ _ _ _)⟩
set_option maxRecDepth 100000 in
set_option maxHeartbeats 4000000 in
theorem tdo_66 {w0 w : World} {M M' : List (Nat × List C)} {K : List (Nat × Obj)} {cp hp sp : Nat} {ds ds' l lo ops gv : List O} {L : List C} {e : Int} (S : TabAt w0 w M K cp hp sp ds (l ++ ops)) (hm : (hp, L) ∈ M) (hn : ops.length = 2) (hT : ∀ (i : Nat) (k : Int) (o : O), ([1024, -3] : List Int)[i]? = some k → ops[i]? = some o → isK k o.kind = true) (hH : HeldAll L ops)
    (H : ∀ w' K' wb g cur, cur.toList = ops.flatMap O.cells → (g, Obj.cells cur 38) ∈ K' → TabAt w0 w' M ((wb, wkBox hp cp sp (.slice (some ⟨g, 0, none⟩) 2 2) (.slice none 0 0)) :: K') cp hp sp ds (l ++ ops) → Calls Tryz.prog 91 #[ptr wb] w' (Gave w0 M' K' cp hp sp ds' (l ++ ops) wb 2 gv e))
    (hE : (e ≠ 0 ∧ lo = l ++ ops) ∨ (e = 0 ∧ lo = l ++ gv ∧ l.length + gv.length ≤ 200 ∧ ∀ o ∈ gv, mayO o = true)) :
    Calls Tryz.prog 44 #[ptr hp, ptr cp, ptr sp, .int .i64 66] w fun r w' => r = .returned (.int .i64 e) ∧ TabAt w0 w' M' K cp hp sp ds' lo := by
  obtain ⟨bs, hbs⟩ := fam20_is (i := 65) (f := 3) (by decide +kernel)
  have HFA := hid' (fun w' => family_at 65 3 bs hbs w')
  have HF := hid' (fun (w' : World) (g : Nat) (K' : List (Nat × Obj)) (hk : (g, Obj.cells #[.int .i64 1024, .int .i64 (-3)] 3) ∈ K') (S' : TabAt w0 w' M K' cp hp sp ds (l ++ ops)) => S'.take (fun E A => hand_from (hp := hp) A hm [1024, -3] g (List.mem_append_right _ hk) (by rw [hn]; rfl) hT hH 2 hn))
  have HG := hid' (fun (W : World) (K' E : List (Nat × Obj)) (v : Value) (S' : TabAt w0 W M' K' cp hp sp ds' (l ++ ops)) (hv : GV E v gv) (hE : ∀ q ∈ E, q ∈ K') (hr : l.length + gv.length ≤ 200) (hy : ∀ o ∈ gv, mayO o = true) => tab_give S' 2 hn hv hE hr hy)
  have HH := hid' H
  have HE := hid' hE
  clear H hE hbs hm hT hH
  go_enter Tryz.func44, Tryz.ntmps44
  go_wp2_with fail
  refine (HFA.out _).mono ?_
  rintro r w1 ⟨rfl, X1⟩
  have S1 := S.pure X1
  have T0 := S1.alloc (.cells #[.func (.func 84) #[] #[], .func (.func 85) #[] #[], .func (.func 86) #[] #[], .func (.func 87) #[] #[], .func (.func 88) #[] #[], .func (.func 89) #[] #[], .func (.func 90) #[] #[], .func (.func 91) #[] #[], .func (.func 92) #[] #[], .func (.func 93) #[] #[], .func (.func 94) #[] #[], .func (.func 95) #[] #[], .func (.func 96) #[] #[]] 148)
  have T1 := T0.alloc (.cells #[.int .i64 8] 3)
  have T2 := T1.alloc (.cells #[.int .i64 1024] 3)
  have T3 := T2.alloc (.cells #[.int .i64 (-3), .int .i64 (-1)] 3)
  have T4 := T3.alloc (.cells #[.int .i64 (-3)] 3)
  have T5 := T4.alloc (.cells #[.int .i64 (-3), .int .i64 (-1)] 3)
  have T6 := T5.alloc (.cells #[.int .i64 1024, .int .i64 (-3)] 3)
  have T7 := T6.alloc (.cells #[.int .i64 1024, .int .i64 (-3)] 3)
  have T8 := T7.alloc (.cells #[.int .i64 (-3)] 3)
  have T9 := T8.alloc (.cells #[.int .i64 1024] 3)
  have T10 := T9.alloc (.cells #[.slice (some ⟨w1.heap.size + 1, 0, none⟩) 1 1, .slice (some ⟨w1.heap.size + 1 + 1, 0, none⟩) 1 1, .slice none 0 0, .slice (some ⟨w1.heap.size + 1 + 1 + 1, 0, none⟩) 2 2, .slice (some ⟨w1.heap.size + 1 + 1 + 1 + 1, 0, none⟩) 1 1, .slice (some ⟨w1.heap.size + 1 + 1 + 1 + 1 + 1, 0, none⟩) 2 2, .slice (some ⟨w1.heap.size + 1 + 1 + 1 + 1 + 1 + 1, 0, none⟩) 2 2, .slice (some ⟨w1.heap.size + 1 + 1 + 1 + 1 + 1 + 1 + 1, 0, none⟩) 2 2, .slice (some ⟨w1.heap.size + 1 + 1 + 1 + 1 + 1 + 1 + 1 + 1, 0, none⟩) 1 1, .slice none 0 0, .slice none 0 0, .slice (some ⟨w1.heap.size + 1 + 1 + 1 + 1 + 1 + 1 + 1 + 1 + 1, 0, none⟩) 1 1, .slice none 0 0] 149)
  simp only [World.size_alloc] at T10
  clear T0 T1 T2 T3 T4 T5 T6 T7 T8 T9 S1 S X1
  go_upto_region 5 with (fail)
  generalize w1.heap.size + 1 + 1 + 1 + 1 + 1 + 1 + 1 + 1 + 1 + 1 = b10 at *
  generalize w1.heap.size + 1 + 1 + 1 + 1 + 1 + 1 + 1 + 1 + 1 = b9 at *
  generalize w1.heap.size + 1 + 1 + 1 + 1 + 1 + 1 + 1 + 1 = b8 at *
  generalize w1.heap.size + 1 + 1 + 1 + 1 + 1 + 1 + 1 = b7 at *
  generalize w1.heap.size + 1 + 1 + 1 + 1 + 1 + 1 = b6 at *
  generalize w1.heap.size + 1 + 1 + 1 + 1 + 1 = b5 at *
  generalize w1.heap.size + 1 + 1 + 1 + 1 = b4 at *
  generalize w1.heap.size + 1 + 1 + 1 = b3 at *
  generalize w1.heap.size + 1 + 1 = b2 at *
  generalize w1.heap.size + 1 = b1 at *
  generalize w1.heap.size = b0 at *
  generalize World.alloc _ _ = w2 at *
  obtain ⟨KL, hKL⟩ : ∃ KL : List (Nat × Obj), KL = [(b10, Obj.cells #[.slice (some ⟨b1, 0, none⟩) 1 1, .slice (some ⟨b2, 0, none⟩) 1 1, .slice none 0 0, .slice (some ⟨b3, 0, none⟩) 2 2, .slice (some ⟨b4, 0, none⟩) 1 1, .slice (some ⟨b5, 0, none⟩) 2 2, .slice (some ⟨b6, 0, none⟩) 2 2, .slice (some ⟨b7, 0, none⟩) 2 2, .slice (some ⟨b8, 0, none⟩) 1 1, .slice none 0 0, .slice none 0 0, .slice (some ⟨b9, 0, none⟩) 1 1, .slice none 0 0] 149), (b9, Obj.cells #[.int .i64 1024] 3), (b8, Obj.cells #[.int .i64 (-3)] 3), (b7, Obj.cells #[.int .i64 1024, .int .i64 (-3)] 3), (b6, Obj.cells #[.int .i64 1024, .int .i64 (-3)] 3), (b5, Obj.cells #[.int .i64 (-3), .int .i64 (-1)] 3), (b4, Obj.cells #[.int .i64 (-3)] 3), (b3, Obj.cells #[.int .i64 (-3), .int .i64 (-1)] 3), (b2, Obj.cells #[.int .i64 1024] 3), (b1, Obj.cells #[.int .i64 8] 3), (b0, Obj.cells #[.func (.func 84) #[] #[], .func (.func 85) #[] #[], .func (.func 86) #[] #[], .func (.func 87) #[] #[], .func (.func 88) #[] #[], .func (.func 89) #[] #[], .func (.func 90) #[] #[], .func (.func 91) #[] #[], .func (.func 92) #[] #[], .func (.func 93) #[] #[], .func (.func 94) #[] #[], .func (.func 95) #[] #[], .func (.func 96) #[] #[]] 148)] := ⟨_, rfl⟩
  have n10 : (b10, Obj.cells #[.slice (some ⟨b1, 0, none⟩) 1 1, .slice (some ⟨b2, 0, none⟩) 1 1, .slice none 0 0, .slice (some ⟨b3, 0, none⟩) 2 2, .slice (some ⟨b4, 0, none⟩) 1 1, .slice (some ⟨b5, 0, none⟩) 2 2, .slice (some ⟨b6, 0, none⟩) 2 2, .slice (some ⟨b7, 0, none⟩) 2 2, .slice (some ⟨b8, 0, none⟩) 1 1, .slice none 0 0, .slice none 0 0, .slice (some ⟨b9, 0, none⟩) 1 1, .slice none 0 0] 149) ∈ KL := by rw [hKL]; exact List.mem_cons_self ..
  have n0 : (b0, Obj.cells #[.func (.func 84) #[] #[], .func (.func 85) #[] #[], .func (.func 86) #[] #[], .func (.func 87) #[] #[], .func (.func 88) #[] #[], .func (.func 89) #[] #[], .func (.func 90) #[] #[], .func (.func 91) #[] #[], .func (.func 92) #[] #[], .func (.func 93) #[] #[], .func (.func 94) #[] #[], .func (.func 95) #[] #[], .func (.func 96) #[] #[]] 148) ∈ KL := by rw [hKL]; simp
  have nk : (b7, Obj.cells #[.int .i64 1024, .int .i64 (-3)] 3) ∈ KL := by rw [hKL]; simp
  have T11 : TabAt w0 w2 M (KL ++ K) cp hp sp ds (l ++ ops) := by rw [hKL]; exact T10
  have R10 := cells_of (T11.box _ (List.mem_append_left _ n10))
  have y10 := blk_lt (T11.box _ (List.mem_append_left _ n10))
  simp only at R10 y10
  clear T10 hKL
  have HT := hid' T11
  clear T11
  go_wp2_with fail
  refine (HF.out _ _ _ (List.mem_append_left _ nk) HT.out).mono ?_
  rintro r w3 ⟨g, cur, rfl, hc, S3⟩
  have R0 := cells_of (S3.box _ (List.mem_cons_of_mem _ (List.mem_append_left _ n0)))
  have y0 := blk_lt (S3.box _ (List.mem_cons_of_mem _ (List.mem_append_left _ n0)))
  simp only at R0 y0
  have S4 := S3.alloc (wkBox hp cp sp (.slice (some ⟨g, 0, none⟩) 2 2) (.slice none 0 0))
  clear HT S3 HF R10 y10
  go_wp2_with fail
  refine (HH.out _ _ _ _ _ hc m0 S4).mono ?_
  rintro r w5 ⟨rfl, a, c, v, E, S5, hv⟩
  have HX := HE.out
  rcases HX with ⟨he, rfl⟩ | ⟨rfl, rfl, hr, hy⟩
  · have he' : (e != 0) = true := by simpa using he
    clear HE HH HG he
    go_wp2_with fail
    go_ret
    exact ⟨rfl, S5.keep (sub_tail _ _ _ _ _)⟩
  · have hS5 := hid' S5
    obtain ⟨KB, hKB⟩ : ∃ KB, KB = (w3.heap.size, wkBox hp cp sp (.slice a 2 c) v) :: (E ++ ((g, Obj.cells cur 38) :: (KL ++ K))) := ⟨_, rfl⟩
    have hw : (w3.heap.size, wkBox hp cp sp (.slice a 2 c) v) ∈ KB := by rw [hKB]; exact m0
    have hE2 : ∀ q ∈ E, q ∈ KB := fun q hq => by rw [hKB]; exact List.mem_cons_of_mem _ (List.mem_append_left _ hq)
    rw [← hKB] at S5
    have HKB := hid' hKB
    have RW := TB.cells (w0 := w0) (cp := cp) (hp := hp) (sp := sp) hw
    have lw := blk_lt (S5.box _ hw)
    simp only at lw
    have hS1 := TB.of S5
    have HS := hid' S5
    have HG := hid' (fun W S' => HG.out W KB E v S' hv hE2 hr hy)
    clear S5 hS5 HE HH hw hE2 hKB hv hr hy
    generalize w3.heap.size = wb at *
    go_upto_region 12 with (fail)
    go_region_held3 (fun W' => TB w0 cp hp sp KB W') (first | (with_reducible assumption) | (with_reducible exact TB.of S6) | (with_reducible exact TB.drew (by with_reducible assumption)))
      ((go_at_call 98; refine (HG.out _ (by first | (with_reducible exact HS.out) | (with_reducible exact HS.out.drew))).mono ?_; rintro r w6 ⟨rfl, S6⟩))
    go_wp2_with fail
    go_ret
    exact ⟨rfl, S6.keep (by rw [HKB.out]; exact sub_tail _ _ _ _ _)⟩
end Go.Proofs.YtpgkjgceldleaaaGreat
/- Walks: table.Do at its operators, over whatever a method does. -/
namespace Go.Proofs.YtpgkjgceldleaaaGreat
open Go.RowKit

set_option maxRecDepth 100000 in
set_option maxHeartbeats 4000000 in
theorem tdo_67 {w0 w : World} {M M' : List (Nat × List C)} {K : List (Nat × Obj)} {cp hp sp : Nat} {ds ds' l lo ops gv : List O} {L : List C} {e : Int} (S : TabAt w0 w M K cp hp sp ds (l ++ ops)) (hm : (hp, L) ∈ M) (hn : ops.length = 1) (hT : ∀ (i : Nat) (k : Int) (o : O), ([-3] : List Int)[i]? = some k → ops[i]? = some o → isK k o.kind = true) (hH : HeldAll L ops)
    (H : ∀ w' K' wb g cur, cur.toList = ops.flatMap O.cells → (g, Obj.cells cur 38) ∈ K' → TabAt w0 w' M ((wb, wkBox hp cp sp (.slice (some ⟨g, 0, none⟩) 1 1) (.slice none 0 0)) :: K') cp hp sp ds (l ++ ops) → Calls Tryz.prog 92 #[ptr wb] w' (Gave w0 M' K' cp hp sp ds' (l ++ ops) wb 1 gv e))
    (hE : (e ≠ 0 ∧ lo = l ++ ops) ∨ (e = 0 ∧ lo = l ++ gv ∧ l.length + gv.length ≤ 200 ∧ ∀ o ∈ gv, mayO o = true)) :
    Calls Tryz.prog 44 #[ptr hp, ptr cp, ptr sp, .int .i64 67] w fun r w' => r = .returned (.int .i64 e) ∧ TabAt w0 w' M' K cp hp sp ds' lo := by
  obtain ⟨bs, hbs⟩ := fam20_is (i := 66) (f := 3) (by decide +kernel)
  have HFA := hid' (fun w' => family_at 66 3 bs hbs w')
  have HF := hid' (fun (w' : World) (g : Nat) (K' : List (Nat × Obj)) (hk : (g, Obj.cells #[.int .i64 (-3)] 3) ∈ K') (S' : TabAt w0 w' M K' cp hp sp ds (l ++ ops)) => S'.take (fun E A => hand_from (hp := hp) A hm [-3] g (List.mem_append_right _ hk) (by rw [hn]; rfl) hT hH 1 hn))
  have HG := hid' (fun (W : World) (K' E : List (Nat × Obj)) (v : Value) (S' : TabAt w0 W M' K' cp hp sp ds' (l ++ ops)) (hv : GV E v gv) (hE : ∀ q ∈ E, q ∈ K') (hr : l.length + gv.length ≤ 200) (hy : ∀ o ∈ gv, mayO o = true) => tab_give S' 1 hn hv hE hr hy)
  have HH := hid' H
  have HE := hid' hE
  clear H hE hbs hm hT hH
  go_enter Tryz.func44, Tryz.ntmps44
  go_wp2_with fail
  refine (HFA.out _).mono ?_
  rintro r w1 ⟨rfl, X1⟩
  have S1 := S.pure X1
  have T0 := S1.alloc (.cells #[.func (.func 84) #[] #[], .func (.func 85) #[] #[], .func (.func 86) #[] #[], .func (.func 87) #[] #[], .func (.func 88) #[] #[], .func (.func 89) #[] #[], .func (.func 90) #[] #[], .func (.func 91) #[] #[], .func (.func 92) #[] #[], .func (.func 93) #[] #[], .func (.func 94) #[] #[], .func (.func 95) #[] #[], .func (.func 96) #[] #[]] 148)
  have T1 := T0.alloc (.cells #[.int .i64 8] 3)
  have T2 := T1.alloc (.cells #[.int .i64 1024] 3)
  have T3 := T2.alloc (.cells #[.int .i64 (-3), .int .i64 (-1)] 3)
  have T4 := T3.alloc (.cells #[.int .i64 (-3)] 3)
  have T5 := T4.alloc (.cells #[.int .i64 (-3), .int .i64 (-1)] 3)
  have T6 := T5.alloc (.cells #[.int .i64 1024, .int .i64 (-3)] 3)
  have T7 := T6.alloc (.cells #[.int .i64 1024, .int .i64 (-3)] 3)
  have T8 := T7.alloc (.cells #[.int .i64 (-3)] 3)
  have T9 := T8.alloc (.cells #[.int .i64 1024] 3)
  have T10 := T9.alloc (.cells #[.slice (some ⟨w1.heap.size + 1, 0, none⟩) 1 1, .slice (some ⟨w1.heap.size + 1 + 1, 0, none⟩) 1 1, .slice none 0 0, .slice (some ⟨w1.heap.size + 1 + 1 + 1, 0, none⟩) 2 2, .slice (some ⟨w1.heap.size + 1 + 1 + 1 + 1, 0, none⟩) 1 1, .slice (some ⟨w1.heap.size + 1 + 1 + 1 + 1 + 1, 0, none⟩) 2 2, .slice (some ⟨w1.heap.size + 1 + 1 + 1 + 1 + 1 + 1, 0, none⟩) 2 2, .slice (some ⟨w1.heap.size + 1 + 1 + 1 + 1 + 1 + 1 + 1, 0, none⟩) 2 2, .slice (some ⟨w1.heap.size + 1 + 1 + 1 + 1 + 1 + 1 + 1 + 1, 0, none⟩) 1 1, .slice none 0 0, .slice none 0 0, .slice (some ⟨w1.heap.size + 1 + 1 + 1 + 1 + 1 + 1 + 1 + 1 + 1, 0, none⟩) 1 1, .slice none 0 0] 149)
  simp only [World.size_alloc] at T10
  clear T0 T1 T2 T3 T4 T5 T6 T7 T8 T9 S1 S X1
  go_upto_region 5 with (fail)
  generalize w1.heap.size + 1 + 1 + 1 + 1 + 1 + 1 + 1 + 1 + 1 + 1 = b10 at *
  generalize w1.heap.size + 1 + 1 + 1 + 1 + 1 + 1 + 1 + 1 + 1 = b9 at *
  generalize w1.heap.size + 1 + 1 + 1 + 1 + 1 + 1 + 1 + 1 = b8 at *
  generalize w1.heap.size + 1 + 1 + 1 + 1 + 1 + 1 + 1 = b7 at *
  generalize w1.heap.size + 1 + 1 + 1 + 1 + 1 + 1 = b6 at *
  generalize w1.heap.size + 1 + 1 + 1 + 1 + 1 = b5 at *
  generalize w1.heap.size + 1 + 1 + 1 + 1 = b4 at *
  generalize w1.heap.size + 1 + 1 + 1 = b3 at *
  generalize w1.heap.size + 1 + 1 = b2 at *
  generalize w1.heap.size + 1 = b1 at *
  generalize w1.heap.size = b0 at *
  generalize World.alloc _ _ = w2 at *
  obtain ⟨KL, hKL⟩ : ∃ KL : List (Nat × Obj), KL = [(b10, Obj.cells #[.slice (some ⟨b1, 0, none⟩) 1 1, .slice (some ⟨b2, 0, none⟩) 1 1, .slice none 0 0, .slice (some ⟨b3, 0, none⟩) 2 2, .slice (some ⟨b4, 0, none⟩) 1 1, .slice (some ⟨b5, 0, none⟩) 2 2, .slice (some ⟨b6, 0, none⟩) 2 2, .slice (some ⟨b7, 0, none⟩) 2 2, .slice (some ⟨b8, 0, none⟩) 1 1, .slice none 0 0, .slice none 0 0, .slice (some ⟨b9, 0, none⟩) 1 1, .slice none 0 0] 149), (b9, Obj.cells #[.int .i64 1024] 3), (b8, Obj.cells #[.int .i64 (-3)] 3), (b7, Obj.cells #[.int .i64 1024, .int .i64 (-3)] 3), (b6, Obj.cells #[.int .i64 1024, .int .i64 (-3)] 3), (b5, Obj.cells #[.int .i64 (-3), .int .i64 (-1)] 3), (b4, Obj.cells #[.int .i64 (-3)] 3), (b3, Obj.cells #[.int .i64 (-3), .int .i64 (-1)] 3), (b2, Obj.cells #[.int .i64 1024] 3), (b1, Obj.cells #[.int .i64 8] 3), (b0, Obj.cells #[.func (.func 84) #[] #[], .func (.func 85) #[] #[], .func (.func 86) #[] #[], .func (.func 87) #[] #[], .func (.func 88) #[] #[], .func (.func 89) #[] #[], .func (.func 90) #[] #[], .func (.func 91) #[] #[], .func (.func 92) #[] #[], .func (.func 93) #[] #[], .func (.func 94) #[] #[], .func (.func 95) #[] #[], .func (.func 96) #[] #[]] 148)] := ⟨_, rfl⟩
  have n10 : (b10, Obj.cells #[.slice (some ⟨b1, 0, none⟩) 1 1, .slice (some ⟨b2, 0, none⟩) 1 1, .slice none 0 0, .slice (some ⟨b3, 0, none⟩) 2 2, .slice (some ⟨b4, 0, none⟩) 1 1, .slice (some ⟨b5, 0, none⟩) 2 2, .slice (some ⟨b6, 0, none⟩) 2 2, .slice (some ⟨b7, 0, none⟩) 2 2, .slice (some ⟨b8, 0, none⟩) 1 1, .slice none 0 0, .slice none 0 0, .slice (some ⟨b9, 0, none⟩) 1 1, .slice none 0 0] 149) ∈ KL := by rw [hKL]; exact List.mem_cons_self ..
  have n0 : (b0, Obj.cells #[.func (.func 84) #[] #[], .func (.func 85) #[] #[], .func (.func 86) #[] #[], .func (.func 87) #[] #[], .func (.func 88) #[] #[], .func (.func 89) #[] #[], .func (.func 90) #[] #[], .func (.func 91) #[] #[], .func (.func 92) #[] #[], .func (.func 93) #[] #[], .func (.func 94) #[] #[], .func (.func 95) #[] #[], .func (.func 96) #[] #[]] 148) ∈ KL := by rw [hKL]; simp
  have nk : (b8, Obj.cells #[.int .i64 (-3)] 3) ∈ KL := by rw [hKL]; simp
  have T11 : TabAt w0 w2 M (KL ++ K) cp hp sp ds (l ++ ops) := by rw [hKL]; exact T10
  have R10 := cells_of (T11.box _ (List.mem_append_left _ n10))
  have y10 := blk_lt (T11.box _ (List.mem_append_left _ n10))
  simp only at R10 y10
  clear T10 hKL
  have HT := hid' T11
  clear T11
  go_wp2_with fail
  refine (HF.out _ _ _ (List.mem_append_left _ nk) HT.out).mono ?_
  rintro r w3 ⟨g, cur, rfl, hc, S3⟩
  have R0 := cells_of (S3.box _ (List.mem_cons_of_mem _ (List.mem_append_left _ n0)))
  have y0 := blk_lt (S3.box _ (List.mem_cons_of_mem _ (List.mem_append_left _ n0)))
  simp only at R0 y0
  have S4 := S3.alloc (wkBox hp cp sp (.slice (some ⟨g, 0, none⟩) 1 1) (.slice none 0 0))
  clear HT S3 HF R10 y10
  go_wp2_with fail
  refine (HH.out _ _ _ _ _ hc m0 S4).mono ?_
  rintro r w5 ⟨rfl, a, c, v, E, S5, hv⟩
  have HX := HE.out
  rcases HX with ⟨he, rfl⟩ | ⟨rfl, rfl, hr, hy⟩
  · have he' : (e != 0) = true := by simpa using he
    clear HE HH HG he
    go_wp2_with fail
    go_ret
    exact ⟨rfl, S5.keep (sub_tail _ _ _ _ _)⟩
  · have hS5 := hid' S5
    obtain ⟨KB, hKB⟩ : ∃ KB, KB = (w3.heap.size, wkBox hp cp sp (.slice a 1 c) v) :: (E ++ ((g, Obj.cells cur 38) :: (KL ++ K))) := ⟨_, rfl⟩
    have hw : (w3.heap.size, wkBox hp cp sp (.slice a 1 c) v) ∈ KB := by rw [hKB]; exact m0
    have hE2 : ∀ q ∈ E, q ∈ KB := fun q hq => by rw [hKB]; exact List.mem_cons_of_mem _ (List.mem_append_left _ hq)
    rw [← hKB] at S5
    have HKB := hid' hKB
    have RW := TB.cells (w0 := w0) (cp := cp) (hp := hp) (sp := sp) hw
    have lw := blk_lt (S5.box _ hw)
    simp only at lw
    have hS1 := TB.of S5
    have HS := hid' S5
    have HG := hid' (fun W S' => HG.out W KB E v S' hv hE2 hr hy)
    clear S5 hS5 HE HH hw hE2 hKB hv hr hy
    generalize w3.heap.size = wb at *
    go_upto_region 12 with (fail)
    go_region_held3 (fun W' => TB w0 cp hp sp KB W') (first | (with_reducible assumption) | (with_reducible exact TB.of S6) | (with_reducible exact TB.drew (by with_reducible assumption)))
      ((go_at_call 98; refine (HG.out _ (by first | (with_reducible exact HS.out) | (with_reducible exact HS.out.drew))).mono ?_; rintro r w6 ⟨rfl, S6⟩))
    go_wp2_with fail
    go_ret
    exact ⟨rfl, S6.keep (by rw [HKB.out]; exact sub_tail _ _ _ _ _)⟩
set_option maxRecDepth 100000 in
set_option maxHeartbeats 4000000 in
theorem tdo_69 {w0 w : World} {M M' : List (Nat × List C)} {K : List (Nat × Obj)} {cp hp sp : Nat} {ds ds' l lo ops gv : List O} {L : List C} {e : Int} (S : TabAt w0 w M K cp hp sp ds (l ++ ops)) (hm : (hp, L) ∈ M) (n : Nat) (hn : ops.length = n) (hn2 : n ≤ 200)
    (H : ∀ w' K' wb g, TabAt w0 w' M ((wb, wkBox hp cp sp (.slice (some ⟨g, 0, none⟩) 0 0) (.slice none 0 0)) :: K') cp hp sp ds (l ++ ops) → Calls Tryz.prog 94 #[ptr wb] w' (Gave w0 M' K' cp hp sp ds' (l ++ ops) wb n gv e))
    (hE : (e ≠ 0 ∧ lo = l ++ ops) ∨ (e = 0 ∧ lo = l ++ gv ∧ l.length + gv.length ≤ 200 ∧ ∀ o ∈ gv, mayO o = true)) :
    Calls Tryz.prog 44 #[ptr hp, ptr cp, ptr sp, .int .i64 69] w fun r w' => r = .returned (.int .i64 e) ∧ TabAt w0 w' M' K cp hp sp ds' lo := by
  obtain ⟨bs, hbs⟩ := fam20_is (i := 68) (f := 3) (by decide +kernel)
  have HFA := hid' (fun w' => family_at 68 3 bs hbs w')
  have HF := hid' (fun (w' : World) (K' : List (Nat × Obj)) (S' : TabAt w0 w' M K' cp hp sp ds (l ++ ops)) => S'.take (fun E A => from_nil (hp := hp) A hm))
  have HG := hid' (fun (W : World) (K' E : List (Nat × Obj)) (v : Value) (S' : TabAt w0 W M' K' cp hp sp ds' (l ++ ops)) (hv : GV E v gv) (hE : ∀ q ∈ E, q ∈ K') (hr : l.length + gv.length ≤ 200) (hy : ∀ o ∈ gv, mayO o = true) => tab_give S' n hn hv hE hr hy)
  have HH := hid' H
  have HE := hid' hE
  clear H hE hbs hm
  go_enter Tryz.func44, Tryz.ntmps44
  go_wp2_with fail
  refine (HFA.out _).mono ?_
  rintro r w1 ⟨rfl, X1⟩
  have S1 := S.pure X1
  have T0 := S1.alloc (.cells #[.func (.func 84) #[] #[], .func (.func 85) #[] #[], .func (.func 86) #[] #[], .func (.func 87) #[] #[], .func (.func 88) #[] #[], .func (.func 89) #[] #[], .func (.func 90) #[] #[], .func (.func 91) #[] #[], .func (.func 92) #[] #[], .func (.func 93) #[] #[], .func (.func 94) #[] #[], .func (.func 95) #[] #[], .func (.func 96) #[] #[]] 148)
  have T1 := T0.alloc (.cells #[.int .i64 8] 3)
  have T2 := T1.alloc (.cells #[.int .i64 1024] 3)
  have T3 := T2.alloc (.cells #[.int .i64 (-3), .int .i64 (-1)] 3)
  have T4 := T3.alloc (.cells #[.int .i64 (-3)] 3)
  have T5 := T4.alloc (.cells #[.int .i64 (-3), .int .i64 (-1)] 3)
  have T6 := T5.alloc (.cells #[.int .i64 1024, .int .i64 (-3)] 3)
  have T7 := T6.alloc (.cells #[.int .i64 1024, .int .i64 (-3)] 3)
  have T8 := T7.alloc (.cells #[.int .i64 (-3)] 3)
  have T9 := T8.alloc (.cells #[.int .i64 1024] 3)
  have T10 := T9.alloc (.cells #[.slice (some ⟨w1.heap.size + 1, 0, none⟩) 1 1, .slice (some ⟨w1.heap.size + 1 + 1, 0, none⟩) 1 1, .slice none 0 0, .slice (some ⟨w1.heap.size + 1 + 1 + 1, 0, none⟩) 2 2, .slice (some ⟨w1.heap.size + 1 + 1 + 1 + 1, 0, none⟩) 1 1, .slice (some ⟨w1.heap.size + 1 + 1 + 1 + 1 + 1, 0, none⟩) 2 2, .slice (some ⟨w1.heap.size + 1 + 1 + 1 + 1 + 1 + 1, 0, none⟩) 2 2, .slice (some ⟨w1.heap.size + 1 + 1 + 1 + 1 + 1 + 1 + 1, 0, none⟩) 2 2, .slice (some ⟨w1.heap.size + 1 + 1 + 1 + 1 + 1 + 1 + 1 + 1, 0, none⟩) 1 1, .slice none 0 0, .slice none 0 0, .slice (some ⟨w1.heap.size + 1 + 1 + 1 + 1 + 1 + 1 + 1 + 1 + 1, 0, none⟩) 1 1, .slice none 0 0] 149)
  simp only [World.size_alloc] at T10
  clear T0 T1 T2 T3 T4 T5 T6 T7 T8 T9 S1 S X1
  go_upto_region 5 with (fail)
  generalize w1.heap.size + 1 + 1 + 1 + 1 + 1 + 1 + 1 + 1 + 1 + 1 = b10 at *
  generalize w1.heap.size + 1 + 1 + 1 + 1 + 1 + 1 + 1 + 1 + 1 = b9 at *
  generalize w1.heap.size + 1 + 1 + 1 + 1 + 1 + 1 + 1 + 1 = b8 at *
  generalize w1.heap.size + 1 + 1 + 1 + 1 + 1 + 1 + 1 = b7 at *
  generalize w1.heap.size + 1 + 1 + 1 + 1 + 1 + 1 = b6 at *
  generalize w1.heap.size + 1 + 1 + 1 + 1 + 1 = b5 at *
  generalize w1.heap.size + 1 + 1 + 1 + 1 = b4 at *
  generalize w1.heap.size + 1 + 1 + 1 = b3 at *
  generalize w1.heap.size + 1 + 1 = b2 at *
  generalize w1.heap.size + 1 = b1 at *
  generalize w1.heap.size = b0 at *
  generalize World.alloc _ _ = w2 at *
  obtain ⟨KL, hKL⟩ : ∃ KL : List (Nat × Obj), KL = [(b10, Obj.cells #[.slice (some ⟨b1, 0, none⟩) 1 1, .slice (some ⟨b2, 0, none⟩) 1 1, .slice none 0 0, .slice (some ⟨b3, 0, none⟩) 2 2, .slice (some ⟨b4, 0, none⟩) 1 1, .slice (some ⟨b5, 0, none⟩) 2 2, .slice (some ⟨b6, 0, none⟩) 2 2, .slice (some ⟨b7, 0, none⟩) 2 2, .slice (some ⟨b8, 0, none⟩) 1 1, .slice none 0 0, .slice none 0 0, .slice (some ⟨b9, 0, none⟩) 1 1, .slice none 0 0] 149), (b9, Obj.cells #[.int .i64 1024] 3), (b8, Obj.cells #[.int .i64 (-3)] 3), (b7, Obj.cells #[.int .i64 1024, .int .i64 (-3)] 3), (b6, Obj.cells #[.int .i64 1024, .int .i64 (-3)] 3), (b5, Obj.cells #[.int .i64 (-3), .int .i64 (-1)] 3), (b4, Obj.cells #[.int .i64 (-3)] 3), (b3, Obj.cells #[.int .i64 (-3), .int .i64 (-1)] 3), (b2, Obj.cells #[.int .i64 1024] 3), (b1, Obj.cells #[.int .i64 8] 3), (b0, Obj.cells #[.func (.func 84) #[] #[], .func (.func 85) #[] #[], .func (.func 86) #[] #[], .func (.func 87) #[] #[], .func (.func 88) #[] #[], .func (.func 89) #[] #[], .func (.func 90) #[] #[], .func (.func 91) #[] #[], .func (.func 92) #[] #[], .func (.func 93) #[] #[], .func (.func 94) #[] #[], .func (.func 95) #[] #[], .func (.func 96) #[] #[]] 148)] := ⟨_, rfl⟩
  have n10 : (b10, Obj.cells #[.slice (some ⟨b1, 0, none⟩) 1 1, .slice (some ⟨b2, 0, none⟩) 1 1, .slice none 0 0, .slice (some ⟨b3, 0, none⟩) 2 2, .slice (some ⟨b4, 0, none⟩) 1 1, .slice (some ⟨b5, 0, none⟩) 2 2, .slice (some ⟨b6, 0, none⟩) 2 2, .slice (some ⟨b7, 0, none⟩) 2 2, .slice (some ⟨b8, 0, none⟩) 1 1, .slice none 0 0, .slice none 0 0, .slice (some ⟨b9, 0, none⟩) 1 1, .slice none 0 0] 149) ∈ KL := by rw [hKL]; exact List.mem_cons_self ..
  have n0 : (b0, Obj.cells #[.func (.func 84) #[] #[], .func (.func 85) #[] #[], .func (.func 86) #[] #[], .func (.func 87) #[] #[], .func (.func 88) #[] #[], .func (.func 89) #[] #[], .func (.func 90) #[] #[], .func (.func 91) #[] #[], .func (.func 92) #[] #[], .func (.func 93) #[] #[], .func (.func 94) #[] #[], .func (.func 95) #[] #[], .func (.func 96) #[] #[]] 148) ∈ KL := by rw [hKL]; simp
  have T11 : TabAt w0 w2 M (KL ++ K) cp hp sp ds (l ++ ops) := by rw [hKL]; exact T10
  have R10 := cells_of (T11.box _ (List.mem_append_left _ n10))
  have y10 := blk_lt (T11.box _ (List.mem_append_left _ n10))
  simp only at R10 y10
  clear T10 hKL
  have HT := hid' T11
  clear T11
  go_wp2_with fail
  refine (HF.out _ _ HT.out).mono ?_
  rintro r w3 ⟨g, cur, rfl, hc, S3⟩
  have R0 := cells_of (S3.box _ (List.mem_cons_of_mem _ (List.mem_append_left _ n0)))
  have y0 := blk_lt (S3.box _ (List.mem_cons_of_mem _ (List.mem_append_left _ n0)))
  simp only at R0 y0
  have S4 := S3.alloc (wkBox hp cp sp (.slice (some ⟨g, 0, none⟩) 0 0) (.slice none 0 0))
  clear HT S3 HF R10 y10
  go_wp2_with fail
  refine (HH.out _ _ _ _ S4).mono ?_
  rintro r w5 ⟨rfl, a, c, v, E, S5, hv⟩
  have HX := HE.out
  rcases HX with ⟨he, rfl⟩ | ⟨rfl, rfl, hr, hy⟩
  · have he' : (e != 0) = true := by simpa using he
    clear HE HH HG he
    go_wp2_with fail
    go_ret
    exact ⟨rfl, S5.keep (sub_tail _ _ _ _ _)⟩
  · have hS5 := hid' S5
    obtain ⟨KB, hKB⟩ : ∃ KB, KB = (w3.heap.size, wkBox hp cp sp (.slice a n c) v) :: (E ++ ((g, Obj.cells cur 38) :: (KL ++ K))) := ⟨_, rfl⟩
    have hw : (w3.heap.size, wkBox hp cp sp (.slice a n c) v) ∈ KB := by rw [hKB]; exact m0
    have hE2 : ∀ q ∈ E, q ∈ KB := fun q hq => by rw [hKB]; exact List.mem_cons_of_mem _ (List.mem_append_left _ hq)
    rw [← hKB] at S5
    have HKB := hid' hKB
    have RW := TB.cells (w0 := w0) (cp := cp) (hp := hp) (sp := sp) hw
    have lw := blk_lt (S5.box _ hw)
    simp only at lw
    have hS1 := TB.of S5
    have HS := hid' S5
    have HG := hid' (fun W S' => HG.out W KB E v S' hv hE2 hr hy)
    clear S5 hS5 HE HH hw hE2 hKB hv hr hy
    generalize w3.heap.size = wb at *
    go_upto_region 12 with (fail)
    go_region_held3 (fun W' => TB w0 cp hp sp KB W') (first | (with_reducible assumption) | (with_reducible exact TB.of S6) | (with_reducible exact TB.drew (by with_reducible assumption)))
      ((go_at_call 98; refine (HG.out _ (by first | (with_reducible exact HS.out) | (with_reducible exact HS.out.drew))).mono ?_; rintro r w6 ⟨rfl, S6⟩))
    go_wp2_with fail
    go_ret
    exact ⟨rfl, S6.keep (by rw [HKB.out]; exact sub_tail _ _ _ _ _)⟩
set_option maxRecDepth 100000 in
set_option maxHeartbeats 4000000 in
theorem tdo_70 {w0 w : World} {M M' : List (Nat × List C)} {K : List (Nat × Obj)} {cp hp sp : Nat} {ds ds' l lo ops gv : List O} {L : List C} {e : Int} (S : TabAt w0 w M K cp hp sp ds (l ++ ops)) (hm : (hp, L) ∈ M) (hn : ops.length = 1) (hT : ∀ (i : Nat) (k : Int) (o : O), ([1024] : List Int)[i]? = some k → ops[i]? = some o → isK k o.kind = true) (hH : HeldAll L ops)
    (H : ∀ w' K' wb g cur, cur.toList = ops.flatMap O.cells → (g, Obj.cells cur 38) ∈ K' → TabAt w0 w' M ((wb, wkBox hp cp sp (.slice (some ⟨g, 0, none⟩) 1 1) (.slice none 0 0)) :: K') cp hp sp ds (l ++ ops) → Calls Tryz.prog 95 #[ptr wb] w' (Gave w0 M' K' cp hp sp ds' (l ++ ops) wb 1 gv e))
    (hE : (e ≠ 0 ∧ lo = l ++ ops) ∨ (e = 0 ∧ lo = l ++ gv ∧ l.length + gv.length ≤ 200 ∧ ∀ o ∈ gv, mayO o = true)) :
    Calls Tryz.prog 44 #[ptr hp, ptr cp, ptr sp, .int .i64 70] w fun r w' => r = .returned (.int .i64 e) ∧ TabAt w0 w' M' K cp hp sp ds' lo := by
  obtain ⟨bs, hbs⟩ := fam20_is (i := 69) (f := 3) (by decide +kernel)
  have HFA := hid' (fun w' => family_at 69 3 bs hbs w')
  have HF := hid' (fun (w' : World) (g : Nat) (K' : List (Nat × Obj)) (hk : (g, Obj.cells #[.int .i64 1024] 3) ∈ K') (S' : TabAt w0 w' M K' cp hp sp ds (l ++ ops)) => S'.take (fun E A => hand_from (hp := hp) A hm [1024] g (List.mem_append_right _ hk) (by rw [hn]; rfl) hT hH 1 hn))
  have HG := hid' (fun (W : World) (K' E : List (Nat × Obj)) (v : Value) (S' : TabAt w0 W M' K' cp hp sp ds' (l ++ ops)) (hv : GV E v gv) (hE : ∀ q ∈ E, q ∈ K') (hr : l.length + gv.length ≤ 200) (hy : ∀ o ∈ gv, mayO o = true) => tab_give S' 1 hn hv hE hr hy)
  have HH := hid' H
  have HE := hid' hE
  clear H hE hbs hm hT hH
  go_enter Tryz.func44, Tryz.ntmps44
  go_wp2_with fail
  refine (HFA.out _).mono ?_
  rintro r w1 ⟨rfl, X1⟩
  have S1 := S.pure X1
  have T0 := S1.alloc (.cells #[.func (.func 84) #[] #[], .func (.func 85) #[] #[], .func (.func 86) #[] #[], .func (.func 87) #[] #[], .func (.func 88) #[] #[], .func (.func 89) #[] #[], .func (.func 90) #[] #[], .func (.func 91) #[] #[], .func (.func 92) #[] #[], .func (.func 93) #[] #[], .func (.func 94) #[] #[], .func (.func 95) #[] #[], .func (.func 96) #[] #[]] 148)
  have T1 := T0.alloc (.cells #[.int .i64 8] 3)
  have T2 := T1.alloc (.cells #[.int .i64 1024] 3)
  have T3 := T2.alloc (.cells #[.int .i64 (-3), .int .i64 (-1)] 3)
  have T4 := T3.alloc (.cells #[.int .i64 (-3)] 3)
  have T5 := T4.alloc (.cells #[.int .i64 (-3), .int .i64 (-1)] 3)
  have T6 := T5.alloc (.cells #[.int .i64 1024, .int .i64 (-3)] 3)
  have T7 := T6.alloc (.cells #[.int .i64 1024, .int .i64 (-3)] 3)
  have T8 := T7.alloc (.cells #[.int .i64 (-3)] 3)
  have T9 := T8.alloc (.cells #[.int .i64 1024] 3)
  have T10 := T9.alloc (.cells #[.slice (some ⟨w1.heap.size + 1, 0, none⟩) 1 1, .slice (some ⟨w1.heap.size + 1 + 1, 0, none⟩) 1 1, .slice none 0 0, .slice (some ⟨w1.heap.size + 1 + 1 + 1, 0, none⟩) 2 2, .slice (some ⟨w1.heap.size + 1 + 1 + 1 + 1, 0, none⟩) 1 1, .slice (some ⟨w1.heap.size + 1 + 1 + 1 + 1 + 1, 0, none⟩) 2 2, .slice (some ⟨w1.heap.size + 1 + 1 + 1 + 1 + 1 + 1, 0, none⟩) 2 2, .slice (some ⟨w1.heap.size + 1 + 1 + 1 + 1 + 1 + 1 + 1, 0, none⟩) 2 2, .slice (some ⟨w1.heap.size + 1 + 1 + 1 + 1 + 1 + 1 + 1 + 1, 0, none⟩) 1 1, .slice none 0 0, .slice none 0 0, .slice (some ⟨w1.heap.size + 1 + 1 + 1 + 1 + 1 + 1 + 1 + 1 + 1, 0, none⟩) 1 1, .slice none 0 0] 149)
  simp only [World.size_alloc] at T10
  clear T0 T1 T2 T3 T4 T5 T6 T7 T8 T9 S1 S X1
  go_upto_region 5 with (fail)
  generalize w1.heap.size + 1 + 1 + 1 + 1 + 1 + 1 + 1 + 1 + 1 + 1 = b10 at *
  generalize w1.heap.size + 1 + 1 + 1 + 1 + 1 + 1 + 1 + 1 + 1 = b9 at *
  generalize w1.heap.size + 1 + 1 + 1 + 1 + 1 + 1 + 1 + 1 = b8 at *
  generalize w1.heap.size + 1 + 1 + 1 + 1 + 1 + 1 + 1 = b7 at *
  generalize w1.heap.size + 1 + 1 + 1 + 1 + 1 + 1 = b6 at *
  generalize w1.heap.size + 1 + 1 + 1 + 1 + 1 = b5 at *
  generalize w1.heap.size + 1 + 1 + 1 + 1 = b4 at *
  generalize w1.heap.size + 1 + 1 + 1 = b3 at *
  generalize w1.heap.size + 1 + 1 = b2 at *
  generalize w1.heap.size + 1 = b1 at *
  generalize w1.heap.size = b0 at *
  generalize World.alloc _ _ = w2 at *
  obtain ⟨KL, hKL⟩ : ∃ KL : List (Nat × Obj), KL = [(b10, Obj.cells #[.slice (some ⟨b1, 0, none⟩) 1 1, .slice (some ⟨b2, 0, none⟩) 1 1, .slice none 0 0, .slice (some ⟨b3, 0, none⟩) 2 2, .slice (some ⟨b4, 0, none⟩) 1 1, .slice (some ⟨b5, 0, none⟩) 2 2, .slice (some ⟨b6, 0, none⟩) 2 2, .slice (some ⟨b7, 0, none⟩) 2 2, .slice (some ⟨b8, 0, none⟩) 1 1, .slice none 0 0, .slice none 0 0, .slice (some ⟨b9, 0, none⟩) 1 1, .slice none 0 0] 149), (b9, Obj.cells #[.int .i64 1024] 3), (b8, Obj.cells #[.int .i64 (-3)] 3), (b7, Obj.cells #[.int .i64 1024, .int .i64 (-3)] 3), (b6, Obj.cells #[.int .i64 1024, .int .i64 (-3)] 3), (b5, Obj.cells #[.int .i64 (-3), .int .i64 (-1)] 3), (b4, Obj.cells #[.int .i64 (-3)] 3), (b3, Obj.cells #[.int .i64 (-3), .int .i64 (-1)] 3), (b2, Obj.cells #[.int .i64 1024] 3), (b1, Obj.cells #[.int .i64 8] 3), (b0, Obj.cells #[.func (.func 84) #[] #[], .func (.func 85) #[] #[], .func (.func 86) #[] #[], .func (.func 87) #[] #[], .func (.func 88) #[] #[], .func (.func 89) #[] #[], .func (.func 90) #[] #[], .func (.func 91) #[] #[], .func (.func 92) #[] #[], .func (.func 93) #[] #[], .func (.func 94) #[] #[], .func (.func 95) #[] #[], .func (.func 96) #[] #[]] 148)] := ⟨_, rfl⟩
  have n10 : (b10, Obj.cells #[.slice (some ⟨b1, 0, none⟩) 1 1, .slice (some ⟨b2, 0, none⟩) 1 1, .slice none 0 0, .slice (some ⟨b3, 0, none⟩) 2 2, .slice (some ⟨b4, 0, none⟩) 1 1, .slice (some ⟨b5, 0, none⟩) 2 2, .slice (some ⟨b6, 0, none⟩) 2 2, .slice (some ⟨b7, 0, none⟩) 2 2, .slice (some ⟨b8, 0, none⟩) 1 1, .slice none 0 0, .slice none 0 0, .slice (some ⟨b9, 0, none⟩) 1 1, .slice none 0 0] 149) ∈ KL := by rw [hKL]; exact List.mem_cons_self ..
  have n0 : (b0, Obj.cells #[.func (.func 84) #[] #[], .func (.func 85) #[] #[], .func (.func 86) #[] #[], .func (.func 87) #[] #[], .func (.func 88) #[] #[], .func (.func 89) #[] #[], .func (.func 90) #[] #[], .func (.func 91) #[] #[], .func (.func 92) #[] #[], .func (.func 93) #[] #[], .func (.func 94) #[] #[], .func (.func 95) #[] #[], .func (.func 96) #[] #[]] 148) ∈ KL := by rw [hKL]; simp
  have nk : (b9, Obj.cells #[.int .i64 1024] 3) ∈ KL := by rw [hKL]; simp
  have T11 : TabAt w0 w2 M (KL ++ K) cp hp sp ds (l ++ ops) := by rw [hKL]; exact T10
  have R10 := cells_of (T11.box _ (List.mem_append_left _ n10))
  have y10 := blk_lt (T11.box _ (List.mem_append_left _ n10))
  simp only at R10 y10
  clear T10 hKL
  have HT := hid' T11
  clear T11
  go_wp2_with fail
  refine (HF.out _ _ _ (List.mem_append_left _ nk) HT.out).mono ?_
  rintro r w3 ⟨g, cur, rfl, hc, S3⟩
  have R0 := cells_of (S3.box _ (List.mem_cons_of_mem _ (List.mem_append_left _ n0)))
  have y0 := blk_lt (S3.box _ (List.mem_cons_of_mem _ (List.mem_append_left _ n0)))
  simp only at R0 y0
  have S4 := S3.alloc (wkBox hp cp sp (.slice (some ⟨g, 0, none⟩) 1 1) (.slice none 0 0))
  clear HT S3 HF R10 y10
  go_wp2_with fail
  refine (HH.out _ _ _ _ _ hc m0 S4).mono ?_
  rintro r w5 ⟨rfl, a, c, v, E, S5, hv⟩
  have HX := HE.out
  rcases HX with ⟨he, rfl⟩ | ⟨rfl, rfl, hr, hy⟩
  · have he' : (e != 0) = true := by simpa using he
    clear HE HH HG he
    go_wp2_with fail
    go_ret
    exact ⟨rfl, S5.keep (sub_tail _ _ _ _ _)⟩
  · have hS5 := hid' S5
    obtain ⟨KB, hKB⟩ : ∃ KB, KB = (w3.heap.size, wkBox hp cp sp (.slice a 1 c) v) :: (E ++ ((g, Obj.cells cur 38) :: (KL ++ K))) := ⟨_, rfl⟩
    have hw : (w3.heap.size, wkBox hp cp sp (.slice a 1 c) v) ∈ KB := by rw [hKB]; exact m0
    have hE2 : ∀ q ∈ E, q ∈ KB := fun q hq => by rw [hKB]; exact List.mem_cons_of_mem _ (List.mem_append_left _ hq)
    rw [← hKB] at S5
    have HKB := hid' hKB
    have RW := TB.cells (w0 := w0) (cp := cp) (hp := hp) (sp := sp) hw
    have lw := blk_lt (S5.box _ hw)
    simp only at lw
    have hS1 := TB.of S5
    have HS := hid' S5
    have HG := hid' (fun W S' => HG.out W KB E v S' hv hE2 hr hy)
    clear S5 hS5 HE HH hw hE2 hKB hv hr hy
    generalize w3.heap.size = wb at *
    go_upto_region 12 with (fail)
    go_region_held3 (fun W' => TB w0 cp hp sp KB W') (first | (with_reducible assumption) | (with_reducible exact TB.of S6) | (with_reducible exact TB.drew (by with_reducible assumption)))
      ((go_at_call 98; refine (HG.out _ (by first | (with_reducible exact HS.out) | (with_reducible exact HS.out.drew))).mono ?_; rintro r w6 ⟨rfl, S6⟩))
    go_wp2_with fail
    go_ret
    exact ⟨rfl, S6.keep (by rw [HKB.out]; exact sub_tail _ _ _ _ _)⟩
set_option maxRecDepth 100000 in
set_option maxHeartbeats 4000000 in
theorem tdo_71 {w0 w : World} {M M' : List (Nat × List C)} {K : List (Nat × Obj)} {cp hp sp : Nat} {ds ds' l lo ops gv : List O} {L : List C} {e : Int} (S : TabAt w0 w M K cp hp sp ds (l ++ ops)) (hm : (hp, L) ∈ M) (n : Nat) (hn : ops.length = n) (hn2 : n ≤ 200)
    (H : ∀ w' K' wb g, TabAt w0 w' M ((wb, wkBox hp cp sp (.slice (some ⟨g, 0, none⟩) 0 0) (.slice none 0 0)) :: K') cp hp sp ds (l ++ ops) → Calls Tryz.prog 96 #[ptr wb] w' (Gave w0 M' K' cp hp sp ds' (l ++ ops) wb n gv e))
    (hE : (e ≠ 0 ∧ lo = l ++ ops) ∨ (e = 0 ∧ lo = l ++ gv ∧ l.length + gv.length ≤ 200 ∧ ∀ o ∈ gv, mayO o = true)) :
    Calls Tryz.prog 44 #[ptr hp, ptr cp, ptr sp, .int .i64 71] w fun r w' => r = .returned (.int .i64 e) ∧ TabAt w0 w' M' K cp hp sp ds' lo := by
  obtain ⟨bs, hbs⟩ := fam20_is (i := 70) (f := 3) (by decide +kernel)
  have HFA := hid' (fun w' => family_at 70 3 bs hbs w')
  have HF := hid' (fun (w' : World) (K' : List (Nat × Obj)) (S' : TabAt w0 w' M K' cp hp sp ds (l ++ ops)) => S'.take (fun E A => from_nil (hp := hp) A hm))
  have HG := hid' (fun (W : World) (K' E : List (Nat × Obj)) (v : Value) (S' : TabAt w0 W M' K' cp hp sp ds' (l ++ ops)) (hv : GV E v gv) (hE : ∀ q ∈ E, q ∈ K') (hr : l.length + gv.length ≤ 200) (hy : ∀ o ∈ gv, mayO o = true) => tab_give S' n hn hv hE hr hy)
  have HH := hid' H
  have HE := hid' hE
  clear H hE hbs hm
  go_enter Tryz.func44, Tryz.ntmps44
  go_wp2_with fail
  refine (HFA.out _).mono ?_
  rintro r w1 ⟨rfl, X1⟩
  have S1 := S.pure X1
  have T0 := S1.alloc (.cells #[.func (.func 84) #[] #[], .func (.func 85) #[] #[], .func (.func 86) #[] #[], .func (.func 87) #[] #[], .func (.func 88) #[] #[], .func (.func 89) #[] #[], .func (.func 90) #[] #[], .func (.func 91) #[] #[], .func (.func 92) #[] #[], .func (.func 93) #[] #[], .func (.func 94) #[] #[], .func (.func 95) #[] #[], .func (.func 96) #[] #[]] 148)
  have T1 := T0.alloc (.cells #[.int .i64 8] 3)
  have T2 := T1.alloc (.cells #[.int .i64 1024] 3)
  have T3 := T2.alloc (.cells #[.int .i64 (-3), .int .i64 (-1)] 3)
  have T4 := T3.alloc (.cells #[.int .i64 (-3)] 3)
  have T5 := T4.alloc (.cells #[.int .i64 (-3), .int .i64 (-1)] 3)
  have T6 := T5.alloc (.cells #[.int .i64 1024, .int .i64 (-3)] 3)
  have T7 := T6.alloc (.cells #[.int .i64 1024, .int .i64 (-3)] 3)
  have T8 := T7.alloc (.cells #[.int .i64 (-3)] 3)
  have T9 := T8.alloc (.cells #[.int .i64 1024] 3)
  have T10 := T9.alloc (.cells #[.slice (some ⟨w1.heap.size + 1, 0, none⟩) 1 1, .slice (some ⟨w1.heap.size + 1 + 1, 0, none⟩) 1 1, .slice none 0 0, .slice (some ⟨w1.heap.size + 1 + 1 + 1, 0, none⟩) 2 2, .slice (some ⟨w1.heap.size + 1 + 1 + 1 + 1, 0, none⟩) 1 1, .slice (some ⟨w1.heap.size + 1 + 1 + 1 + 1 + 1, 0, none⟩) 2 2, .slice (some ⟨w1.heap.size + 1 + 1 + 1 + 1 + 1 + 1, 0, none⟩) 2 2, .slice (some ⟨w1.heap.size + 1 + 1 + 1 + 1 + 1 + 1 + 1, 0, none⟩) 2 2, .slice (some ⟨w1.heap.size + 1 + 1 + 1 + 1 + 1 + 1 + 1 + 1, 0, none⟩) 1 1, .slice none 0 0, .slice none 0 0, .slice (some ⟨w1.heap.size + 1 + 1 + 1 + 1 + 1 + 1 + 1 + 1 + 1, 0, none⟩) 1 1, .slice none 0 0] 149)
  simp only [World.size_alloc] at T10
  clear T0 T1 T2 T3 T4 T5 T6 T7 T8 T9 S1 S X1
  go_upto_region 5 with (fail)
  generalize w1.heap.size + 1 + 1 + 1 + 1 + 1 + 1 + 1 + 1 + 1 + 1 = b10 at *
  generalize w1.heap.size + 1 + 1 + 1 + 1 + 1 + 1 + 1 + 1 + 1 = b9 at *
  generalize w1.heap.size + 1 + 1 + 1 + 1 + 1 + 1 + 1 + 1 = b8 at *
  generalize w1.heap.size + 1 + 1 + 1 + 1 + 1 + 1 + 1 = b7 at *
  generalize w1.heap.size + 1 + 1 + 1 + 1 + 1 + 1 = b6 at *
  generalize w1.heap.size + 1 + 1 + 1 + 1 + 1 = b5 at *
  generalize w1.heap.size + 1 + 1 + 1 + 1 = b4 at *
  generalize w1.heap.size + 1 + 1 + 1 = b3 at *
  generalize w1.heap.size + 1 + 1 = b2 at *
  generalize w1.heap.size + 1 = b1 at *
  generalize w1.heap.size = b0 at *
  generalize World.alloc _ _ = w2 at *
  obtain ⟨KL, hKL⟩ : ∃ KL : List (Nat × Obj), KL = [(b10, Obj.cells #[.slice (some ⟨b1, 0, none⟩) 1 1, .slice (some ⟨b2, 0, none⟩) 1 1, .slice none 0 0, .slice (some ⟨b3, 0, none⟩) 2 2, .slice (some ⟨b4, 0, none⟩) 1 1, .slice (some ⟨b5, 0, none⟩) 2 2, .slice (some ⟨b6, 0, none⟩) 2 2, .slice (some ⟨b7, 0, none⟩) 2 2, .slice (some ⟨b8, 0, none⟩) 1 1, .slice none 0 0, .slice none 0 0, .slice (some ⟨b9, 0, none⟩) 1 1, .slice none 0 0] 149), (b9, Obj.cells #[.int .i64 1024] 3), (b8, Obj.cells #[.int .i64 (-3)] 3), (b7, Obj.cells #[.int .i64 1024, .int .i64 (-3)] 3), (b6, Obj.cells #[.int .i64 1024, .int .i64 (-3)] 3), (b5, Obj.cells #[.int .i64 (-3), .int .i64 (-1)] 3), (b4, Obj.cells #[.int .i64 (-3)] 3), (b3, Obj.cells #[.int .i64 (-3), .int .i64 (-1)] 3), (b2, Obj.cells #[.int .i64 1024] 3), (b1, Obj.cells #[.int .i64 8] 3), (b0, Obj.cells #[.func (.func 84) #[] #[], .func (.func 85) #[] #[], .func (.func 86) #[] #[], .func (.func 87) #[] #[], .func (.func 88) #[] #[], .func (.func 89) #[] #[], .func (.func 90) #[] #[], .func (.func 91) #[] #[], .func (.func 92) #[] #[], .func (.func 93) #[] #[], .func (.func 94) #[] #[], .func (.func 95) #[] #[], .func (.func 96) #[] #[]] 148)] := ⟨_, rfl⟩
  have n10 : (b10, Obj.cells #[.slice (some ⟨b1, 0, none⟩) 1 1, .slice (some ⟨b2, 0, none⟩) 1 1, .slice none 0 0, .slice (some ⟨b3, 0, none⟩) 2 2, .slice (some ⟨b4, 0, none⟩) 1 1, .slice (some ⟨b5, 0, none⟩) 2 2, .slice (some ⟨b6, 0, none⟩) 2 2, .slice (some ⟨b7, 0, none⟩) 2 2, .slice (some ⟨b8, 0, none⟩) 1 1, .slice none 0 0, .slice none 0 0, .slice (some ⟨b9, 0, none⟩) 1 1, .slice none 0 0] 149) ∈ KL := by rw [hKL]; exact List.mem_cons_self ..
  have n0 : (b0, Obj.cells #[.func (.func 84) #[] #[], .func (.func 85) #[] #[], .func (.func 86) #[] #[], .func (.func 87) #[] #[], .func (.func 88) #[] #[], .func (.func 89) #[] #[], .func (.func 90) #[] #[], .func (.func 91) #[] #[], .func (.func 92) #[] #[], .func (.func 93) #[] #[], .func (.func 94) #[] #[], .func (.func 95) #[] #[], .func (.func 96) #[] #[]] 148) ∈ KL := by rw [hKL]; simp
  have T11 : TabAt w0 w2 M (KL ++ K) cp hp sp ds (l ++ ops) := by rw [hKL]; exact T10
  have R10 := cells_of (T11.box _ (List.mem_append_left _ n10))
  have y10 := blk_lt (T11.box _ (List.mem_append_left _ n10))
  simp only at R10 y10
  clear T10 hKL
  have HT := hid' T11
  clear T11
  go_wp2_with fail
  refine (HF.out _ _ HT.out).mono ?_
  rintro r w3 ⟨g, cur, rfl, hc, S3⟩
  have R0 := cells_of (S3.box _ (List.mem_cons_of_mem _ (List.mem_append_left _ n0)))
  have y0 := blk_lt (S3.box _ (List.mem_cons_of_mem _ (List.mem_append_left _ n0)))
  simp only at R0 y0
  have S4 := S3.alloc (wkBox hp cp sp (.slice (some ⟨g, 0, none⟩) 0 0) (.slice none 0 0))
  clear HT S3 HF R10 y10
  go_wp2_with fail
  refine (HH.out _ _ _ _ S4).mono ?_
  rintro r w5 ⟨rfl, a, c, v, E, S5, hv⟩
  have HX := HE.out
  rcases HX with ⟨he, rfl⟩ | ⟨rfl, rfl, hr, hy⟩
  · have he' : (e != 0) = true := by simpa using he
    clear HE HH HG he
    go_wp2_with fail
    go_ret
    exact ⟨rfl, S5.keep (sub_tail _ _ _ _ _)⟩
  · have hS5 := hid' S5
    obtain ⟨KB, hKB⟩ : ∃ KB, KB = (w3.heap.size, wkBox hp cp sp (.slice a n c) v) :: (E ++ ((g, Obj.cells cur 38) :: (KL ++ K))) := ⟨_, rfl⟩
    have hw : (w3.heap.size, wkBox hp cp sp (.slice a n c) v) ∈ KB := by rw [hKB]; exact m0
    have hE2 : ∀ q ∈ E, q ∈ KB := fun q hq => by rw [hKB]; exact List.mem_cons_of_mem _ (List.mem_append_left _ hq)
    rw [← hKB] at S5
    have HKB := hid' hKB
    have RW := TB.cells (w0 := w0) (cp := cp) (hp := hp) (sp := sp) hw
    have lw := blk_lt (S5.box _ hw)
    simp only at lw
    have hS1 := TB.of S5
    have HS := hid' S5
    have HG := hid' (fun W S' => HG.out W KB E v S' hv hE2 hr hy)
    clear S5 hS5 HE HH hw hE2 hKB hv hr hy
    generalize w3.heap.size = wb at *
    go_upto_region 12 with (fail)
    go_region_held3 (fun W' => TB w0 cp hp sp KB W') (first | (with_reducible assumption) | (with_reducible exact TB.of S6) | (with_reducible exact TB.drew (by with_reducible assumption)))
      ((go_at_call 98; refine (HG.out _ (by first | (with_reducible exact HS.out) | (with_reducible exact HS.out.drew))).mono ?_; rintro r w6 ⟨rfl, S6⟩))
    go_wp2_with fail
    go_ret
    exact ⟨rfl, S6.keep (by rw [HKB.out]; exact sub_tail _ _ _ _ _)⟩
end Go.Proofs.YtpgkjgceldleaaaGreat
