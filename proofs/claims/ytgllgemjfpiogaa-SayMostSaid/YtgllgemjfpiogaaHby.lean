/- Walk: Bytes. -/
import Derived.Test.YtgllgemjfpiogaaHlk
namespace Go.Proofs.Ytgllgemjfpiogaa
open Go.RowKit

theorem sizeOf_byte (w : World) : (sizeOf 5).run Try.prog w = .ok 1 w := by kernel_rfl
theorem sizeOf_obj (w : World) : (sizeOf 28).run Try.prog w = .ok 6 w := by kernel_rfl
theorem Try.elemBytes : Try.prog.elem 22 = 5 := by kernel_rfl
theorem Try.elemObjs : Try.prog.elem 41 = 28 := by kernel_rfl
theorem add_add (g i j : Nat) : ((⟨g, 0, none⟩ : Addr).add i).add j = ⟨g, i + j, none⟩ := by
  unfold Addr.add; split <;> split <;> simp_all
theorem add_one (g i : Nat) : (⟨g, 0, none⟩ : Addr).add i = ⟨g, i, none⟩ := by
  unfold Addr.add; split <;> simp_all

theorem run_conv_bytes (w : World) (x : Value) (h : ∃ a n c, x = .slice a n c) : (convert 22 9 x).run Try.prog w = (Conv.bytesToString x).run Try.prog w := by
  obtain ⟨a, n, c, rfl⟩ := h
  cases a <;> simp only [convert, Sem.run_bind, run_underlying Try.underStr, run_underlying Try.underBytes, run_underlying Try.underByte, Result.andThen_ok]

/-- A piece of a row of bytes, and the string of it. -/
theorem cut_bytes {w1 : World} {v : Value} {bs : List UInt8} (h : Row w1 5 1 v bs.length (bs.map vu8)) (p z : Int) (hp : 0 ≤ p) (hz : 0 ≤ z) (hpz : p + z ≤ bs.length) :
    ∃ A c', (∀ W, (Instr.slice 22 v (some (.int .i64 p)) (some (.int .i64 (p + z))) none).run Try.prog W = .ok (.slice A z.toNat c') W) ∧
      ∀ W, Chg NoB w1 W → (convert 22 9 (.slice A z.toNat c')).run Try.prog W = .ok (.string ⟨((bs.drop p.toNat).take z.toNat).toArray⟩) W := by
  have hzl : ((bs.drop p.toNat).take z.toNat).length = z.toNat := by simp; omega
  rcases h.2 with ⟨rfl, hn⟩ | ⟨g, cap, cur, fz, rfl, hcur, hfz, hnc, hcm, hcs, htk⟩
  · have hp0 : p = 0 := by omega
    have hz0 : z = 0 := by omega
    subst hp0; subst hz0
    refine ⟨none, 0, fun W => ?_, fun W _ => ?_⟩
    · rw [run_slice_lh (w := W) 22 none 0 0 (by rw [Try.elemBytes]; exact Try.underBytes) .i64 .i64 0 (0 + 0) (by omega) (by omega) (by omega), Try.elemBytes, sizeOf_byte]
      simp [sliced]
    · rw [run_conv_bytes W _ ⟨_, _, _, rfl⟩]
      simp [Conv.bytesToString]; rfl
  · refine ⟨if cap = p.toNat then some ⟨g, 0, none⟩ else some ((⟨g, 0, none⟩ : Addr).add p.toNat), cap - p.toNat, fun W => ?_, fun W hW => ?_⟩
    · rw [run_slice_lh (w := W) 22 (some ⟨g, 0, none⟩) _ cap (by rw [Try.elemBytes]; exact Try.underBytes) .i64 .i64 p (p + z) hp (by omega) (by omega), Try.elemBytes, sizeOf_byte]
      simp only [Result.andThen_ok, sliced, Nat.mul_one, Option.map_some]
      rw [show (p + z).toNat - p.toNat = z.toNat by omega]
    · have hc' := hW.blk hcur id
      have hcell : ∀ i, i < bs.length → W.cell? ⟨g, i, none⟩ = some (vu8 (bs.getD i 0)) := fun i hi => by
        rw [cells_of hc' i, ← Array.getElem?_toList]
        have : cur.toList[i]? = (cur.toList.take (bs.length * 1))[i]? := by rw [List.getElem?_take, if_pos (by omega)]
        rw [this, htk]; simp [hi]
      rw [run_conv_bytes W _ ⟨_, _, _, rfl⟩]
      by_cases hz0 : z = 0
      · subst hz0
        have := fun a => bytesToString_run Try.prog W a [] (cap - p.toNat) (fun i hi => by simp at hi)
        split <;> simpa using this _
      · rw [if_neg (by omega)]
        have := bytesToString_run Try.prog W ((⟨g, 0, none⟩ : Addr).add p.toNat) ((bs.drop p.toNat).take z.toNat) (cap - p.toNat) (fun i hi => by
          rw [add_add, hcell _ (by omega)]
          have : p.toNat + i < bs.length := by omega
          simp [this])
        rw [hzl] at this
        exact this

def bytesH (L : List C) (o : O) : ByteArray × Int :=
  if findE L o ≠ 0 then (⟨#[]⟩, findE L o) else match L[o.n.toNat]? with
    | none => (⟨#[]⟩, 0)
    | some c => if c.text then (⟨((c.bytes.drop (atOf o).toNat).take (lenOf c o).toNat).toArray⟩, 0) else (⟨#[]⟩, 6)

theorem PC.ok.textRow {w : World} {x : PC} (h : x.ok w) (ht : x.c.text = true) : Row w 5 1 x.sl x.c.bytes.length (x.c.bytes.map vu8) := by
  unfold PC.ok at h; simp only [ht, if_true] at h; exact h.2.1
theorem PC.ok.itemRow {w : World} {x : PC} (h : x.ok w) (ht : x.c.text = false) : Row w 28 6 x.sl x.c.items.length (x.c.items.flatMap O.cells) := by
  unfold PC.ok at h; simp only [ht, if_false, Bool.false_eq_true] at h; exact h.2.1

set_option maxHeartbeats 1000000 in
theorem bytes_any (h : HS) (o : O) (w : World) (H : HeapRep w h) :
   Calls Try.prog 38 #[ptr h.hp, o.val] w fun e w' => e = .returned (.tuple #[.string (bytesH h.l o).1, .int .i64 (bytesH h.l o).2]) ∧ Chg NoB w w' := by
  obtain ⟨hp, slv, L⟩ := h
  obtain ⟨k, ex, N, a, l, s⟩ := o
  by_cases hE : findE (HS.l ⟨hp, slv, L⟩) ⟨k, ex, N, a, l, s⟩ ≠ 0
  · have hs : bytesH (HS.l ⟨hp, slv, L⟩) ⟨k, ex, N, a, l, s⟩ = (⟨#[]⟩, findE (HS.l ⟨hp, slv, L⟩) ⟨k, ex, N, a, l, s⟩) := by simp [bytesH, hE]
    rw [hs]
    have hb : (findE (HS.l ⟨hp, slv, L⟩) ⟨k, ex, N, a, l, s⟩ != 0) = true := by simpa using hE
    have FB := fun w' (H' : HeapRep w' ⟨hp, slv, L⟩) => find_bad ⟨hp, slv, L⟩ ⟨k, ex, N, a, l, s⟩ w' H' hE
    generalize findE (HS.l ⟨hp, slv, L⟩) ⟨k, ex, N, a, l, s⟩ = fe at *
    go_enter Try.func38, Try.ntmps38
    go_wp2_with fail
    refine (FB _ (H.pure ((Chg.refl NoB w).alloc _))).mono ?_
    rintro e w1 ⟨rfl, hb1⟩
    have hB0 := hb1.blk (blk_new w _) id
    have H1 := (H.pure ((Chg.refl NoB w).alloc _)).pure hb1
    have XW := ((Chg.refl NoB w).alloc _).pure hb1
    clear hb1
    clear FB
    go_wp2
    go_ret2
    refine ⟨rfl, ?_⟩
    (repeat' (first | with_reducible assumption | with_reducible refine Chg.alloc ?_ _ | with_reducible refine Chg.drew ?_ | with_reducible refine Chg.drewN ?_ _ | with_reducible refine Chg.setCell ?_ (Or.inr ?_) _ | exact Nat.le_refl _ | exact Nat.le_add_right _ _ | (simp; done) | (simp; omega)))
  simp only [ne_eq, Decidable.not_not] at hE
  obtain ⟨hn, hok, hx, hc, hk, hat, hle, hsz, -⟩ := findE_good H hE
  have hsm := cell_small H hx
  have FG := fun w' (H' : HeapRep w' ⟨hp, slv, L⟩) => find_good ⟨hp, slv, L⟩ ⟨k, ex, N, a, l, s⟩ w' H' hE hn
  simp only at FG hn hc hx hat hle hsz hsm
  have hs : bytesH (HS.l ⟨hp, slv, L⟩) ⟨k, ex, N, a, l, s⟩ = (if L[N.toNat].c.text then (⟨((L[N.toNat].c.bytes.drop (atOf ⟨k, ex, N, a, l, s⟩).toNat).take (lenOf L[N.toNat].c ⟨k, ex, N, a, l, s⟩).toNat).toArray⟩, 0) else (⟨#[]⟩, 6)) := by
    simp [bytesH, hE, hc]
  rw [hs]
  clear hs hE hc hok hk
  generalize lenOf L[N.toNat].c ⟨k, ex, N, a, l, s⟩ = z at *
  generalize L[N.toNat] = x at *
  generalize atOf ⟨k, ex, N, a, l, s⟩ = p at *
  by_cases ht : x.c.text = true
  · rw [if_pos ht]
    have hval : x.val = .agg #[.pointer none, ptr x.p] := by simp [PC.val, PC.ptrs, ht]
    rw [hval] at FG
    clear hval
    have hA : IntKind.i64.wrap (p + z) = p + z := IntWalk.i64_in _ (by omega)
    have hsz2 : p + z ≤ (x.c.bytes.length : Int) := by simpa [C.size, ht] using hsz
    obtain ⟨b, hb⟩ : ∃ b : ByteArray, b = ⟨((x.c.bytes.drop p.toNat).take z.toNat).toArray⟩ := ⟨_, rfl⟩
    rw [← hb]
    go_enter Try.func38, Try.ntmps38
    go_wp2_with fail
    refine (FG _ (H.pure ((Chg.refl NoB w).alloc _))).mono ?_
    rintro e w1 ⟨rfl, hb1⟩
    have hB0 := hb1.blk (blk_new w _) id
    have H1 := (H.pure ((Chg.refl NoB w).alloc _)).pure hb1
    have XW := ((Chg.refl NoB w).alloc _).pure hb1
    clear hb1
    have hok1 := H1.cell x hx
    have hhd := hok1.head.1 ht
    obtain ⟨A, c', e1, e2⟩ := cut_bytes (hok1.textRow ht) p z hat hle hsz2
    rw [← hb] at e2
    clear FG hb
    have Rx := Chg.cells (S := NoB) hhd id
    have lx := blk_lt hhd
    have X := Chg.refl NoB w1
    go_wp2
    go_ret2
    refine ⟨rfl, ?_⟩
    (repeat' (first | with_reducible assumption | with_reducible refine Chg.alloc ?_ _ | with_reducible refine Chg.drew ?_ | with_reducible refine Chg.drewN ?_ _ | with_reducible refine Chg.setCell ?_ (Or.inr ?_) _ | exact Nat.le_refl _ | exact Nat.le_add_right _ _ | (simp; done) | (simp; omega)))
  · have htf : x.c.text = false := by simpa using ht
    rw [if_neg ht]
    have hval : x.val = .agg #[ptr x.p, .pointer none] := by simp [PC.val, PC.ptrs, htf]
    rw [hval] at FG
    clear hval
    go_enter Try.func38, Try.ntmps38
    go_wp2_with fail
    refine (FG _ (H.pure ((Chg.refl NoB w).alloc _))).mono ?_
    rintro e w1 ⟨rfl, hb1⟩
    have hB0 := hb1.blk (blk_new w _) id
    have H1 := (H.pure ((Chg.refl NoB w).alloc _)).pure hb1
    have XW := ((Chg.refl NoB w).alloc _).pure hb1
    clear hb1
    clear FG
    go_wp2
    go_ret2
    refine ⟨rfl, ?_⟩
    (repeat' (first | with_reducible assumption | with_reducible refine Chg.alloc ?_ _ | with_reducible refine Chg.drew ?_ | with_reducible refine Chg.drewN ?_ _ | with_reducible refine Chg.setCell ?_ (Or.inr ?_) _ | exact Nat.le_refl _ | exact Nat.le_add_right _ _ | (simp; done) | (simp; omega)))
end Go.Proofs.Ytgllgemjfpiogaa
