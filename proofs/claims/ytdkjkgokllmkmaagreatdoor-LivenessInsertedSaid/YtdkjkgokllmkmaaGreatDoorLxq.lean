/- Steps of a drawn region, the slot that is written named. -/
import Derived.Test.YtdkjkgokllmkmaaGreatDoorLxa
namespace Go.Proofs.YtdkjkgokllmkmaaGreatDoor.Lv
open Go.RowKit
set_option linter.unusedVariables false
set_option linter.unusedSimpArgs false
section
variable {md : Region.Mode} {ops : Array Oper} {Q : Exit → Act → World → Prop}
theorem AnyS.takeD {S : World → Prop} {i : Nat} (d : Nat) {oi : Oper} {v : Value} {fuel : Nat} {listed : Array Bool} {a : Act} {w : World} (hnd : noDefer ops = true) (hi : ops[i]? = some oi) (hd : oi.dst = some d)
    (hs : Region.noSelect ops = true) (hf : Region.free md ops listed i = true) (hr : (Region.ready md ops listed).contains i = true)
    (hQ : ∀ c a w, Q (.panic c) (a.put oi.dst v) w → Q (.panic c) a w) (hS : S w) (hy : YieldsS Tryz.prog ops S oi v a)
    (h : AnyS Fence.wide 100 Tryz.prog md ops Q S fuel (listed.setIfInBounds i true) (a.put (some d) v) w) : AnyS Fence.wide 100 Tryz.prog md ops Q S (fuel + 1) listed a w :=
  AnyS.take hnd hi hs hf hr hQ hS hy (by rw [hd]; exact h)
theorem AnyS.offD {S : World → Prop} {i : Nat} (d : Nat) {oi : Oper} {fuel : Nat} {listed : Array Bool} {a : Act} {w : World} (hnd : noDefer ops = true) (hi : ops[i]? = some oi) (hd : oi.dst = some d)
    (hs : Region.noSelect ops = true) (hf : Region.free md ops listed i = true) (hr : (Region.ready md ops listed).contains i = true)
    (hQ : ∀ c a w, Q (.panic c) (a.put oi.dst undef) w → Q (.panic c) a w) (hS : S w) (hy : Region.wanted oi (yielded ops a.tmps) = false)
    (h : AnyS Fence.wide 100 Tryz.prog md ops Q S fuel (listed.setIfInBounds i true) (a.put (some d) undef) w) : AnyS Fence.wide 100 Tryz.prog md ops Q S (fuel + 1) listed a w :=
  AnyS.off hnd hi hs hf hr hQ hS hy (by rw [hd]; exact h)
theorem AnyS.act {S : World → Prop} {fuel : Nat} {listed : Array Bool} {a a' : Act} {w : World} (h : a = a') (H : AnyS Fence.wide 100 Tryz.prog md ops Q S fuel listed a' w) : AnyS Fence.wide 100 Tryz.prog md ops Q S fuel listed a w := h ▸ H
/-- The one operation that can come up is a call. -/
theorem AnyS.enterD {S : World → Prop} {i : Nat} (d : Nat) {o : Oper} {fuel : Nat} {listed : Array Bool} {a : Act} {w w' : World} {f : FuncId} {args : Array Value} {R : Value → World → Prop} (hr0 : Region.ready md ops listed = [i]) (ho : ops[i]? = some o) (hd : o.dst = some d)
    (hw : Region.wanted o (yielded ops a.tmps) = true) (hnd : ∀ c, o.op ≠ .defer c)
    (hr : (execOp a.eval o).run Tryz.prog w = .ok (.enter f args) w') (hc : Calls Tryz.prog f args w' fun e w'' => ∃ v, e = .returned v ∧ R v w'')
    (hK : ∀ v w'', R v w'' → S w'' ∧ AnyS Fence.wide 100 Tryz.prog md ops Q S fuel (listed.setIfInBounds i true) (a.put (some d) v) w'') : AnyS Fence.wide 100 Tryz.prog md ops Q S (fuel + 1) listed a w := by
  refine AnyS.one hr0 (wpOpIn_step ho (fun K' hK' => ?_))
  rw [if_pos hw]
  unfold Oper.wpIn
  rw [Oper.semAt_eq _ _ _ hnd, hr]
  refine ⟨fun _ _ => trivial, ⟨(fun h => by cases h), ?_⟩⟩
  refine (callsIn_wide.2 hc).mono ?_
  rintro e w'' ⟨v, rfl, h⟩
  refine hK' _ _ ?_
  rw [hd]
  exact hK v w'' h
/-- The one operation that can come up makes a value. -/
theorem AnyS.valueD {S : World → Prop} {i : Nat} (d : Nat) {o : Oper} {fuel : Nat} {listed : Array Bool} {a : Act} {w w' : World} {v : Value} (hr0 : Region.ready md ops listed = [i]) (ho : ops[i]? = some o) (hd : o.dst = some d)
    (hw : Region.wanted o (yielded ops a.tmps) = true) (hnd : ∀ c, o.op ≠ .defer c)
    (hr : (execOp a.eval o).run Tryz.prog w = .ok (.value v) w')
    (hK : S w' ∧ AnyS Fence.wide 100 Tryz.prog md ops Q S fuel (listed.setIfInBounds i true) (a.put (some d) v) w') : AnyS Fence.wide 100 Tryz.prog md ops Q S (fuel + 1) listed a w := by
  refine AnyS.one hr0 (wpOpIn_step ho (fun K' hK' => ?_))
  rw [if_pos hw]
  unfold Oper.wpIn
  rw [Oper.semAt_eq _ _ _ hnd, hr]
  refine ⟨fun _ _ => trivial, hK' _ _ ?_⟩
  rw [hd]
  exact hK
end
end Go.Proofs.YtdkjkgokllmkmaaGreatDoor.Lv
