/- Walks: seq.Do at getinterval and putinterval. -/
import Derived.Test.YteglbjcdlekbpaaGreatZSeqa
namespace Go.Proofs.YteglbjcdlekbpaaGreat
open Go.RowKit

theorem int3 {v : Int} : isK 8 (iO v).kind = true := by
  show isK 8 3 = true
  decide +kernel
theorem BS.more {w0 W : World} {M : List (Nat × List C)} {sp : Nat} {l : List O} {KB : List (Nat × Obj)} {q : Nat × Obj} (S : StkAt w0 W M (q :: KB) sp l) : BS w0 M sp KB W := ⟨l, [q], S⟩
def GI (w0 : World) (M : List (Nat × List C)) (KB : List (Nat × Obj)) (sp : Nat) (l : List O) (p : O) (s10 s11 : Value) (wx : World) : Prop := s10 = .int .i64 0 ∧ ∃ q, s11 = ptr q ∧ StkAt w0 wx M ((q, .cells p.cells.toArray 38) :: KB) sp l
set_option maxRecDepth 100000 in
set_option maxHeartbeats 4000000 in
theorem sdo_51 {w0 w : World} {M : List (Nat × List C)} {K : List (Nat × Obj)} {sp hp : Nat} {l : List O} {L : List C} {a p : O} {i n : Int} (S : StkAt w0 w M K sp (l ++ [a, iO i, iO n])) (hm : (hp, L) ∈ M) (ka : a.kind = 8) (hH : HeldAll L [a, iO i, iO n]) (hp1 : partH L a i n = (p, 0)) (mp : mayO p = true) (hl : l.length + 1 ≤ 200) :
    Calls Tryz.prog 59 #[ptr hp, ptr sp, .int .i64 51] w fun r w' => r = .returned (.int .i64 0) ∧ StkAt w0 w' M K sp (l ++ [p]) := by
  obtain ⟨bs, hbs⟩ := fam_is (i := 50) (f := 2) (by decide +kernel)
  have HFA := hid' (fun w' => family_at 50 2 bs hbs w')
  have HF := hid' (fun (w' : World) (g : Nat) (K' : List (Nat × Obj)) (S' : StkAt w0 w' M ((g, .cells #[.int .i64 768, .int .i64 8, .int .i64 8] 3) :: K') sp (l ++ [a, iO i, iO n])) => hand_from S' hm [768, 8, 8] g m0 rfl (fun j k o h1 h2 => by
    rcases j with _ | _ | _ | j
    · simp at h1 h2; subst h1 h2; rw [ka]; decide +kernel
    · simp at h1 h2; subst h1 h2; exact int3
    · simp at h1 h2; subst h1 h2; exact int3
    · simp at h1) hH 3 rfl)
  have HP := hid' (fun (w' : World) (K' : List (Nat × Obj)) (S' : StkAt w0 w' M K' sp (l ++ [a, iO i, iO n])) => S'.ask (r := .tuple #[p.val, .int .i64 0]) (fun K2 A => at_part A a i n hp1 hm))
  have HG := hid' (fun (W : World) (g : Nat) (K' : List (Nat × Obj)) (cur : Array Value) (hc : cur.toList = [p].flatMap O.cells) (S' : StkAt w0 W M ((g, .cells cur 38) :: K') sp (l ++ [a, iO i, iO n])) => giveB S' hc 3 rfl 1 rfl hl (fun o ho => by
    simp only [List.mem_cons, List.not_mem_nil, or_false] at ho
    subst ho; exact mp))
  obtain ⟨uk, ux, un, up, ul, us⟩ := a
  obtain ⟨rk, rx, rn, rp, rl, rs⟩ := p
  clear ka hH hp1 mp hl hbs hm
  go_enter Tryz.func59, Tryz.ntmps59
  go_wp2_with fail
  refine (HFA.out _).mono ?_
  rintro r w1 ⟨rfl, X1⟩
  have S1 := (S.pure X1).alloc (.cells #[.int .i64 768, .int .i64 8, .int .i64 8] 3)
  clear S X1
  go_wp2_with fail
  refine (HF.out _ _ _ S1).mono ?_
  rintro r w2 ⟨g, cur, rfl, hc, S2⟩
  obtain ⟨q0, q1, q2, q3, q4, q5⟩ := at6 hc (m := 0) rfl
  obtain ⟨p0, p1, p2, p3, p4, p5⟩ := at6 hc (m := 1) rfl
  obtain ⟨r0, r1, r2, r3, r4, r5⟩ := at6 hc (m := 2) rfl
  simp only [Nat.zero_mul, Nat.zero_add, Nat.one_mul, Nat.reduceAdd, Nat.reduceMul] at q0 q1 q2 q3 q4 q5 p0 p1 p2 p3 p4 p5 r0 r1 r2 r3 r4 r5
  clear hc S1
  (try clear Rg); (try clear yg); (try clear Zg)
  have Rg := cells_of (S2.box _ m0)
  have yg := blk_lt (S2.box _ m0)
  (try simp only at Rg yg)
  go_upto_region 30 with (fail)
  generalize w1.heap.size = b1 at *
  obtain ⟨KB, hKB⟩ : ∃ KB, KB = (g, Obj.cells cur 38) :: (b1, Obj.cells #[.int .i64 768, .int .i64 8, .int .i64 8] 3) :: K := ⟨_, rfl⟩
  have nG : (g, Obj.cells cur 38) ∈ KB := by rw [hKB]; exact m0
  rw [← hKB] at S2
  have HKB := hid' hKB
  clear Rg yg hKB
  have QG := BS.cells (w0 := w0) (M := M) (sp := sp) nG
  go_cut [10, 11] (fun s10 s11 wx => GI w0 M KB sp (l ++ [⟨uk, ux, un, up, ul, us⟩, iO i, iO n]) ⟨rk, rx, rn, rp, rl, rs⟩ s10 s11 wx)
  case first =>
    have hS1 := BS.of S2
    have HS := hid' S2
    clear S2 HG HFA HF nG
    go_region_held3 (fun W' => BS w0 M sp KB W') (first | (with_reducible assumption) | (with_reducible exact BS.of S4) | (with_reducible exact BS.more S4) | (with_reducible exact BS.drew (by with_reducible assumption)) | (with_reducible exact BS.alloc (by with_reducible assumption) _) | (with_reducible exact BS.alloc (BS.of S4) _) | (with_reducible exact BS.drew (BS.alloc (by with_reducible assumption) _)) | (with_reducible exact BS.drew (BS.alloc (BS.of S4) _)) | (with_reducible exact BS.drew (BS.more S4)) | exact BS.more (S4.putO rk rx rn rp rl rs) | exact BS.more ((S4.alloc _).putO rk rx rn rp rl rs) | exact BS.drew (BS.more (S4.putO rk rx rn rp rl rs)) | exact BS.drew (BS.more ((S4.alloc _).putO rk rx rn rp rl rs)))
      (first | (go_at_call 108; refine (HP.out _ _ (by first | exact HS.out | exact HS.out.drew | exact HS.out.alloc _ | exact (HS.out.alloc _).drew | exact HS.out.drew.alloc _)).mono ?_; rintro r w4 ⟨rfl, S4⟩; try have Rz := cells_of (S4.box _ m0); try have Zz := free_of (S4.box _ m0); try have yz := blk_lt (S4.box _ m0)))
    all_goals
      go_wp2_with fail
      go_meet
      refine ⟨rfl, _, rfl, ?_⟩
      show StkAt w0 _ M ((_, Obj.cells #[.int .i64 rk, .bool rx, .int .i64 rn, .int .i64 rp, .int .i64 rl, .string rs] 38) :: KB) sp _
      first
        | (with_reducible exact S4.alloc _)
        | (with_reducible exact (S4.alloc _).drew)
        | exact S4.putO rk rx rn rp rl rs
        | exact (S4.putO rk rx rn rp rl rs).drew
  case rest =>
    obtain ⟨rfl, q, rfl, S4⟩ := hcut
    have S4 : StkAt w0 _ M ((q, Obj.cells #[.int .i64 rk, .bool rx, .int .i64 rn, .int .i64 rp, .int .i64 rl, .string rs] 38) :: KB) sp (l ++ [⟨uk, ux, un, up, ul, us⟩, iO i, iO n]) := S4
    (try clear Rz); (try clear yz); (try clear Zz)
    have Rz := cells_of (S4.box _ m0)
    have yz := blk_lt (S4.box _ m0)
    (try simp only at Rz yz)
    clear S2 HFA HF QG nG HP
    have S5 := S4.alloc (Obj.cells #[.int .i64 rk, .bool rx, .int .i64 rn, .int .i64 rp, .int .i64 rl, .string rs] 38)
    go_wp2_with fail
    refine (HG.out _ _ _ _ rfl S5).mono ?_
    rintro r w6 ⟨rfl, S6⟩
    go_wp2_with fail
    go_ret
    exact ⟨rfl, S6.keep (by rw [HKB.out]; exact (((List.sublist_cons_self _ _).trans (List.sublist_cons_self _ _)).trans (List.sublist_cons_self _ _)))⟩
end Go.Proofs.YteglbjcdlekbpaaGreat
