/- A drawn region by an invariant: each operation, whenever it comes up, keeps it. The example's function. -/
import Derived.Test.YtdkjkgokllmkmaaGreatDoorLwi
namespace Go.Proofs.YtdkjkgokllmkmaaGreatDoor.Lv
open Go.RowKit
set_option linter.unusedVariables false
set_option linter.unusedSimpArgs false
section
variable {F : Fence} {n : Nat} {P : Program} {ops : Array Oper} {Q : Exit → Act → World → Prop} {md : Region.Mode}
theorem filter_lt {p p' : Nat → Bool} {i : Nat} (hp : ∀ x, p' x = true → p x = true) (h1 : p i = true) (h2 : p' i = false) : ∀ l : List Nat, i ∈ l → (l.filter p').length < (l.filter p).length
  | [], h => by cases h
  | x :: l, h => by
    have hle : ∀ l : List Nat, (l.filter p').length ≤ (l.filter p).length := by
      intro l
      induction l with
      | nil => simp
      | cons y l ih =>
        rw [List.filter_cons, List.filter_cons]
        cases hy' : p' y with
        | true =>
          rw [hp y hy']
          simp
          exact ih
        | false => cases p y <;> simp <;> omega
    rw [List.filter_cons, List.filter_cons]
    rcases List.mem_cons.1 h with rfl | h
    · rw [h1, h2]
      simp
      have := hle l
      omega
    · have ih := filter_lt hp h1 h2 l h
      cases hx' : p' x with
      | true =>
        rw [hp x hx']
        simp
        exact ih
      | false => cases p x <;> simp <;> omega
def ordered (ops : Array Oper) : Bool := (List.range ops.size).all fun i => ((ops[i]?).map (·.after.all fun e => decide (e.on < i))).getD true
theorem any_inv (Inv : Array Bool → Act → World → Prop) (hord : ordered ops = true) (hend : ∀ listed a w, Inv listed a w → (∀ i, i < ops.size → listed.getD i true = true) → Q .normal a w)
    (hstep : ∀ (i : Nat) (o : Oper), ops[i]? = some o → ∀ (listed : Array Bool) (a : Act) (w : World), listed.size = ops.size → listed.getD i true = false → (∀ e ∈ o.after, Region.binds md e = true → listed.getD e.on false = true) → Inv listed a w →
      wpOpIn F n P ops Q i (fun a' w' => Inv (listed.setIfInBounds i true) a' w') a w) :
    ∀ (fuel : Nat) (listed : Array Bool) (a : Act) (w : World), listed.size = ops.size → ((List.range ops.size).filter fun i => !listed.getD i true).length ≤ fuel → Inv listed a w → wpAnyIn F n P md ops Q fuel listed a w := by
  have hall : ∀ listed : Array Bool, listed.size = ops.size → Region.ready md ops listed = [] → ∀ i, i < ops.size → listed.getD i true = true := by
    intro listed hsz hr i
    induction i using Nat.strongRecOn with
    | _ i ih =>
      intro hi
      cases hl : listed.getD i true with
      | true => rfl
      | false =>
        have hm : i ∈ Region.ready md ops listed := mem_ready.2 ⟨hl, ops[i], Array.getElem?_eq_getElem hi, fun e he _ => by
          have h1 := List.all_eq_true.1 hord i (List.mem_range.2 hi)
          rw [Array.getElem?_eq_getElem hi] at h1
          simp only [Option.map_some, Option.getD_some, Array.all_eq_true] at h1
          obtain ⟨k, hk, rfl⟩ := Array.getElem_of_mem he
          have h2 : (ops[i].after[k]).on < i := by simpa using h1 k hk
          have h3 := ih _ h2 (by omega)
          have hlt : (ops[i].after[k]).on < listed.size := by omega
          simpa [Array.getD, hlt] using h3⟩
        rw [hr] at hm
        cases hm
  intro fuel
  induction fuel with
  | zero =>
    intro listed a w hsz hc hI
    have hr : Region.ready md ops listed = [] := by
      cases hrd : Region.ready md ops listed with
      | nil => rfl
      | cons j l =>
        have hj : j ∈ Region.ready md ops listed := by rw [hrd]; simp
        obtain ⟨hl, o, ho, _⟩ := mem_ready.1 hj
        have hjs := (Array.getElem?_eq_some_iff.1 ho).1
        have hm : j ∈ (List.range ops.size).filter fun i => !listed.getD i true := List.mem_filter.2 ⟨List.mem_range.2 hjs, by rw [hl]; rfl⟩
        have := List.length_pos_of_mem hm
        omega
    exact ⟨hr, hend _ _ _ hI (hall _ hsz hr)⟩
  | succ fuel ih =>
    intro listed a w hsz hc hI
    refine ⟨fun hr => hend _ _ _ hI (hall _ hsz hr), fun j hj => ?_⟩
    obtain ⟨hl, o, ho, hb⟩ := mem_ready.1 hj
    have hjs := (Array.getElem?_eq_some_iff.1 ho).1
    refine wpOpIn_mono (fun a' w' hI' => ih _ a' w' (by simpa using hsz) ?_ hI') (hstep j o ho listed a w hsz hl hb hI)
    have := filter_lt (p := fun i => !listed.getD i true) (p' := fun i => !(listed.setIfInBounds j true).getD i true) (i := j) (fun x hx => by
      by_cases e : j = x
      · subst e
        simp [Array.getD, hsz, hjs] at hx
      · rw [getD_set_ne true e] at hx
        exact hx) (by rw [hl]; rfl) (by simp [Array.getD, hsz, hjs]) (List.range ops.size) (List.mem_range.2 hjs)
    omega
end
theorem region_inv {id : Nat} {ops : Array Oper} {Q : Exit → Act → World → Prop} {a : Act} {w : World} (Inv : Array Bool → Act → World → Prop) (hord : ordered ops = true) (hend : ∀ listed a w, Inv listed a w → (∀ i, i < ops.size → listed.getD i true = true) → Q .normal a w)
    (hstep : ∀ (i : Nat) (o : Oper), ops[i]? = some o → ∀ (listed : Array Bool) (a : Act) (w : World), listed.size = ops.size → listed.getD i true = false → (∀ e ∈ o.after, Region.binds .any e = true → listed.getD e.on false = true) → Inv listed a w →
      wpOpIn Fence.wide 100 Tryz.prog ops Q i (fun a' w' => Inv (listed.setIfInBounds i true) a' w') a w) (h0 : Inv (Array.replicate ops.size false) a w.drew) : (Code.region id ops true).wp Tryz.prog Q a w :=
  wpIn_wide.1 (wpIn_region_any (by kernel_rfl) (any_inv Inv hord hend hstep ops.size _ a _ (by simp) (by
    have := List.length_filter_le (fun i => !(Array.replicate ops.size false).getD i true) (List.range ops.size)
    rw [List.length_range] at this
    exact this) h0))
end Go.Proofs.YtdkjkgokllmkmaaGreatDoor.Lv
