/-
  What is shown of a piece alone holds of it in a round of a range over a function.
-/
import Derived.Test.YtadohkidfkbncaaTail
import Derived.RangeFuncNested
import Derived.RangeFuncBound
import Derived.RangeFuncCalls
import Derived.RangeFuncLeaves
import Derived.OwnWalkIn
import Derived.TacticsInMore
import Derived.Deep.DrawnRows
namespace Go.Proofs.Ytadohkidfkbncaa
open Go.RowKit
set_option linter.unusedSimpArgs false

section
variable {P : Program} {b : Frame} {a : Act} {k : List Item} {cs : List Frame} {w : World}
theorem stepR_scope' {c : Code} : step P (lone (b.atR a (.code (.scope c) :: k)) cs w) = .next (lone (b.atR a (.code c :: .inScope c :: k)) cs w) :=
  step_lone_go (by simp [stepG, stepG.exec, Frame.atR])
theorem stepR_inScope' {c : Code} : step P (lone (b.atR a (.inScope c :: k)) cs w) = .next (lone (b.atR a k) cs w) :=
  step_lone_go (by simp [stepG, stepG.exec, Frame.atR])

/-- A scope that nothing jumps in, in a fence. -/
theorem wpIn_scope {F : Fence} {n : Nat} {Q : Exit → Act → World → Prop} {c : Code} (h : c.wpIn F n P (Exit.noGoto Q) a w) : (Code.scope c).wpIn F n P Q a w := by
  intro b k cs hro hb hr
  have h0 : (lone (b.atR a (.code (.scope c) :: k)) cs w).fenced P F := fenced_calm hb hr rfl
  obtain ⟨e, a₁, w₁, hq, harr⟩ := h b (.inScope c :: k) cs hro hb hr
  cases e with
  | normal => exact ⟨.normal, a₁, w₁, hq, .head h0 stepR_scope' (StepsIn.trans harr (.one (fenced_calm hb hr rfl) stepR_inScope'))⟩
  | exit id =>
    have hx : exitTo id (.inScope c :: k) = exitTo id k := by simp [exitTo]
    exact ⟨.exit id, a₁, w₁, hq, fun k' hk => .head h0 stepR_scope' (harr.1 k' (by rw [hx]; exact hk)),
      fun hr' hk => let ⟨k₁, h1, h2⟩ := harr.2 hr' (by rw [hx]; exact hk); ⟨k₁, h1, .head h0 stepR_scope' h2⟩⟩
  | goto l => exact hq.elim
  | ret => exact ⟨_, a₁, w₁, hq, .of_steps (.one h0 stepR_scope') harr⟩
  | panic ch => exact ⟨_, a₁, w₁, hq, .of_steps (.one h0 stepR_scope') harr⟩
  | outgrown => exact ⟨_, a₁, w₁, hq, .of_steps (.one h0 stepR_scope') harr⟩
end

/-- Around a round, no fence. -/
def rnd (l : Nat) : Fence := Fence.wide.inRound l

section
variable {P : Program} {Q : Exit → Act → World → Prop} {l n : Nat}

theorem rowsIn_of {row : String} {args : Array Value} {w : World} {R : Value → World → Prop} (h : Rows P row args w R) : RowsIn (rnd l) n P row args w R := by
  intro c cs _
  obtain ⟨v, w', h1, h2⟩ := h c cs
  exact ⟨v, w', h1, stepsIn_wide.2 h2⟩

theorem operIn_of {o : Oper} {a : Act} {w : World} {K : Act → World → Prop} (hnd : ∀ c, o.op ≠ .defer c) (h : o.wp P a w K Q) : o.wpIn (rnd l) n P a w K Q := by
  refine ⟨fun _ _ => trivial, ?_⟩
  unfold Oper.wp at h
  have hs : o.semAt (rnd l).round a.eval = execOp a.eval o := Oper.semAt_some l a.eval o hnd
  rw [hs]
  generalize (execOp a.eval o).run P w = r at h
  match r, h with
  | .ok (.value v) w', h => exact h
  | .ok .skip w', h => exact h
  | .ok (.defer d) w', h => exact h
  | .ok (.enter f args) w', h => exact ⟨fun h => by simp [rnd, Fence.wide] at h, CallsIn.inRound l (callsIn_wide.2 h)⟩
  | .ok (.row row args) w', h => exact ⟨fun h => by simp [rnd, Fence.wide] at h, rowsIn_of h⟩
  | .halt (.panic v) w', h => exact h

theorem wpOpIn_of {ops : Array Oper} (hq : ¬ LetsOut Q) (hnd : ∀ (i : Nat) (o : Oper), ops[i]? = some o → ∀ c, o.op ≠ Op.defer c) {i : Nat} {K : Act → World → Prop} {a : Act} {w : World} (h : wpOp P ops Q i K a w) : wpOpIn (rnd l) n P ops Q i K a w := by
  unfold wpOp at h
  unfold wpOpIn
  cases ho : ops[i]? with
  | none => simpa [ho] using h
  | some o =>
    simp only [ho] at h ⊢
    split
    · rename_i hw
      rw [if_pos hw] at h
      exact operIn_of (hnd i o ho) (h.resolve_right fun k => hq k.2)
    · rename_i hw
      rw [if_neg hw] at h
      exact ⟨fun _ _ => trivial, h⟩

theorem wpAnyIn_of {ops : Array Oper} (hq : ¬ LetsOut Q) (hnd : ∀ (i : Nat) (o : Oper), ops[i]? = some o → ∀ c, o.op ≠ Op.defer c) {md : Region.Mode} : ∀ (fuel : Nat) (listed : Array Bool) (a : Act) (w : World), wpAny P md ops Q fuel listed a w → wpAnyIn (rnd l) n P md ops Q fuel listed a w
  | 0, _, _, _, h => h
  | fuel + 1, _, _, _, h => ⟨h.1, fun i hi => wpOpIn_of hq hnd (wpOp_mono (fun a' w' h' => wpAnyIn_of hq hnd fuel _ a' w' h') (h.2 i hi))⟩

theorem wpOpsIn_of {ops : Array Oper} (hq : ¬ LetsOut Q) (hnd : ∀ (i : Nat) (o : Oper), ops[i]? = some o → ∀ c, o.op ≠ Op.defer c) : ∀ (rs : List Nat) (a : Act) (w : World), wpOps P ops Q rs a w → wpOpsIn (rnd l) n P ops Q rs a w
  | [], _, _, h => h
  | i :: rs, a, w, h => by
    rw [wpOps_cons] at h
    rw [wpOpsIn_cons]
    exact wpOpIn_of hq hnd (wpOp_mono (fun a' w' h' => wpOpsIn_of hq hnd rs a' w' h') h)

/-- No statement of a region defers. -/
def calmOps (os : List Oper) : Bool := os.all fun o => match o.op with
  | .defer _ => false
  | _ => true

theorem calmOps_spec {os : List Oper} (h : calmOps os = true) : ∀ (i : Nat) (o : Oper), os.toArray[i]? = some o → ∀ c, o.op ≠ Op.defer c := by
  intro i o ho c hc
  have hm : o ∈ os := List.mem_of_getElem? (by simpa using ho)
  have := List.all_eq_true.1 h o hm
  rw [hc] at this
  simp at this

/-- A region in the text's order. -/
theorem wpIn_plain {id : Nat} {os : List Oper} (hq : ¬ LetsOut Q) (hnd : calmOps os = true) {a : Act} {w : World} (h : wpList P os.toArray Q os a w) : (Code.region id os.toArray false).wpIn (rnd l) n P Q a w := by
  refine wpIn_region (wpOpsIn_of hq (calmOps_spec hnd) _ a w ?_)
  have := wpOps_eq_wpList (P := P) (Q := Q) (ops := os.toArray) os 0 (by simp)
  rw [List.range_eq_range']
  simp only [List.size_toArray]
  rw [this]
  exact h

/-- A region that draws its order, what is held said of each world. -/
theorem wpIn_held {id : Nat} {os : List Oper} {S : World → Prop} (hm : P.follows .mixedOrders = true) (hq : ¬ LetsOut Q) (hnd : calmOps os = true) {a : Act} {w : World} (hS : S w.drew)
    (h : S w.drew → wpAnyH P .any os.toArray Q S os.length (Array.replicate os.length false) a w.drew) : (Code.region id os.toArray true).wpIn (rnd l) n P Q a w := by
  refine wpIn_region_any hm (wpAnyIn_of hq (calmOps_spec hnd) _ _ _ _ ?_)
  have := wpAny_of_held _ _ _ _ (h hS)
  simpa using this

/-- A region whose last operation waits for all others. -/
theorem wpIn_last {id : Nat} {os : List Oper} {o : Oper} {S : World → Prop} (ho : os.getLast? = some o) (hm : P.follows .mixedOrders = true) (hq : ¬ LetsOut Q) (hnd : calmOps os = true) (hB : lastB .any os.toArray os.dropLast.toArray.size = true) {a : Act} {w : World} (hS : S w.drew)
    (h : S w.drew → wpAnyH P .any os.dropLast.toArray (LastQ P os.toArray o Q) S os.dropLast.length (Array.replicate os.dropLast.length false) a w.drew) : (Code.region id os.toArray true).wpIn (rnd l) n P Q a w := by
  have hos : os.dropLast ++ [o] = os := by
    obtain ⟨ys, rfl⟩ := List.getLast?_eq_some_iff.1 ho
    simp
  have hf : os.dropLast.toArray.push o = os.toArray := by
    rw [List.push_toArray, hos]
  have hP : LastP .any os.toArray o os.dropLast.toArray.size := LastP.of hB (by rw [← hf]; simp)
  refine wpIn_region_any hm (wpAnyIn_of hq (calmOps_spec hnd) _ _ _ _ ?_)
  have h1 := wpAny_of_held _ _ _ _ (h hS)
  have h2 := hP.split hf os.dropLast.length (Array.replicate os.dropLast.length false) a w.drew (by simp) h1
  have e1 : os.toArray.size = os.dropLast.length + 1 := by rw [← hf]; simp
  have e2 : Array.replicate os.toArray.size false = (Array.replicate os.dropLast.length false).push false := by rw [e1, Array.replicate_succ]
  rw [e2, e1]
  exact h2


end

end Go.Proofs.Ytadohkidfkbncaa
