/- A region that draws its order, inside a round of a range over a function: shown as everywhere. -/
import Derived.Test.YtpgkjgceldleaaaZHeapa
import Derived.RangeFuncCalls
import Derived.RangeFuncNested
import Derived.OwnWalkIn
import Derived.Deep.RegionHeld3
namespace Go.Proofs.Ytpgkjgceldleaaa
open Go.RowKit

variable {P : Program} {md : Region.Mode} {ops : Array Oper} {Q : Exit → Act → World → Prop}
theorem upon_in {l : Nat} {o : Oper} {a : Act} {K K' : Act → World → Prop} (hK : ∀ a w, K a w → K' a w) : ∀ r : Result Go.Next, o.upon P a K Q r → o.uponIn (Fence.wide.inRound l) 0 P a K' Q r := by
  intro r h
  match r with
  | .ok (.value v) w => exact hK _ _ h
  | .ok .skip w => exact hK _ _ h
  | .ok (.defer d) w => exact hK _ _ h
  | .ok (.enter f args) w =>
    refine ⟨fun h => by simp [Fence.wide] at h, CallsIn.inRound l (callsIn_wide.2 ?_)⟩
    refine Calls.mono h ?_
    intro e w' hr
    cases e with
    | returned v => exact hK _ _ hr
    | panicked ch => exact hr
    | outgrown => exact hr
  | .ok (.row row args) w =>
    refine ⟨fun h => by simp [Fence.wide] at h, fun c cs _ => ?_⟩
    obtain ⟨v, w', hr, hs⟩ := h c cs
    exact ⟨v, w', hK _ _ hr, stepsIn_wide.2 hs⟩
  | .halt (.panic v) w => exact h
theorem op_in {l : Nat} {i : Nat} {a : Act} {w : World} {K K' : Act → World → Prop} (hQ : ¬ LetsOut Q) (hd : ∀ (j : Nat) (o : Oper), ops[j]? = some o → ∀ c, o.op ≠ .defer c) (hK : ∀ a w, K a w → K' a w) (h : wpOp P ops Q i K a w) :
    wpOpIn (Fence.wide.inRound l) 0 P ops Q i K' a w := by
  unfold wpOp at h
  unfold wpOpIn
  cases ho : ops[i]? with
  | none => rw [ho] at h; exact hK _ _ h
  | some o =>
    rw [ho] at h
    simp only at h ⊢
    split
    · rename_i hw
      rw [if_pos hw] at h
      rcases h with h | ⟨_, h⟩
      · refine ⟨fun _ _ => trivial, ?_⟩
        rw [Fence.inRound_round, Oper.semAt_some l _ _ (hd i o ho)]
        exact upon_in hK _ h
      · exact absurd h hQ
    · rename_i hw
      rw [if_neg hw] at h
      exact ⟨fun _ _ => trivial, hK _ _ h⟩
theorem any_in {l : Nat} (hQ : ¬ LetsOut Q) (hd : ∀ (j : Nat) (o : Oper), ops[j]? = some o → ∀ c, o.op ≠ .defer c) : ∀ (fuel : Nat) (listed : Array Bool) (a : Act) (w : World), wpAny P md ops Q fuel listed a w → wpAnyIn (Fence.wide.inRound l) 0 P md ops Q fuel listed a w
  | 0, _, _, _, h => h
  | fuel + 1, _, _, _, h => ⟨h.1, fun i hi => op_in hQ hd (fun a' w' h' => any_in hQ hd fuel _ a' w' h') (h.2 i hi)⟩
/-- The region in a round, by what holds at each of its steps. -/
theorem region_in {l id : Nat} {a : Act} {w : World} {S : World → Prop} (hm : P.follows .mixedOrders = true) (hQ : ¬ LetsOut Q) (hd : ops.toList.all (fun o => match o.op with | .defer _ => false | _ => true) = true) (hS : S w.drew)
    (h : S w.drew → wpAnyH P .any ops Q S ops.size (Array.replicate ops.size false) a w.drew) : (Code.region id ops true).wpIn (Fence.wide.inRound l) 0 P Q a w := by
  refine wpIn_region_any hm (any_in hQ (fun j o ho c e => ?_) _ _ _ _ (wpAny_of_held _ _ _ _ (h hS)))
  have hmem : o ∈ ops.toList := by
    obtain ⟨hj, rfl⟩ := Array.getElem?_eq_some_iff.1 ho
    exact Array.getElem_mem_toList hj
  have := List.all_eq_true.1 hd o hmem
  rw [e] at this
  simp at this
end Go.Proofs.Ytpgkjgceldleaaa
