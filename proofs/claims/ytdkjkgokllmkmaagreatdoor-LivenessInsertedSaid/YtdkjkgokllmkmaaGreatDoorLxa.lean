/- The uses of a point, stored in a block of the caller's own, in any order. -/
import Derived.Test.YtdkjkgokllmkmaaGreatDoorLwp
import Derived.Test.YtdkjkgokllmkmaaGreatDoorLwm
import Derived.Test.YtdkjkgokllmkmaaGreatDoorLwr
namespace Go.Proofs.YtdkjkgokllmkmaaGreatDoor.Lv
open Go.RowKit
set_option linter.unusedVariables false
set_option linter.unusedSimpArgs false
section
variable {md : Region.Mode} {ops : Array Oper} {Q : Exit → Act → World → Prop}
theorem wpOp_value {i : Nat} {o : Oper} {K : Act → World → Prop} {a : Act} {w w' : World} {v : Value} (ho : ops[i]? = some o) (hw : ∀ t, Region.wanted o t = true) (hnd : ∀ c, o.op ≠ .defer c)
    (hr : (execOp a.eval o).run Tryz.prog w = .ok (.value v) w') (hK : K (a.put o.dst v) w') : wpOpIn Fence.wide 100 Tryz.prog ops Q i K a w := by
  refine wpOpIn_step ho (fun K' hK' => ?_)
  rw [if_pos (hw _)]
  unfold Oper.wpIn
  rw [Oper.semAt_eq _ _ _ hnd, hr]
  exact ⟨fun _ _ => trivial, hK' _ _ hK⟩
theorem wpOp_skip {i : Nat} {o : Oper} {K : Act → World → Prop} {a : Act} {w w' : World} (ho : ops[i]? = some o) (hw : ∀ t, Region.wanted o t = true) (hnd : ∀ c, o.op ≠ .defer c)
    (hr : (execOp a.eval o).run Tryz.prog w = .ok .skip w') (hK : K (a.put o.dst undef) w') : wpOpIn Fence.wide 100 Tryz.prog ops Q i K a w := by
  refine wpOpIn_step ho (fun K' hK' => ?_)
  rw [if_pos (hw _)]
  unfold Oper.wpIn
  rw [Oper.semAt_eq _ _ _ hnd, hr]
  exact ⟨fun _ _ => trivial, hK' _ _ hK⟩
theorem wpOp_enter {i : Nat} {o : Oper} {K : Act → World → Prop} {a : Act} {w w' : World} {f : FuncId} {args : Array Value} {R : Value → World → Prop} (ho : ops[i]? = some o) (hw : ∀ t, Region.wanted o t = true) (hnd : ∀ c, o.op ≠ .defer c)
    (hr : (execOp a.eval o).run Tryz.prog w = .ok (.enter f args) w') (hc : Calls Tryz.prog f args w' fun e w'' => ∃ v, e = .returned v ∧ R v w'') (hK : ∀ v w'', R v w'' → K (a.put o.dst v) w'') : wpOpIn Fence.wide 100 Tryz.prog ops Q i K a w := by
  refine wpOpIn_step ho (fun K' hK' => ?_)
  rw [if_pos (hw _)]
  unfold Oper.wpIn
  rw [Oper.semAt_eq _ _ _ hnd, hr]
  refine ⟨fun _ _ => trivial, ⟨(fun h => by cases h), ?_⟩⟩
  refine (callsIn_wide.2 hc).mono ?_
  rintro e w'' ⟨v, rfl, h⟩
  exact hK' _ _ (hK v w'' h)
/-- A step that comes up at any time and whose guard is shut. -/
theorem wpOpIn_putY {Y : Act → Prop} {i j : Nat} {oi oj : Oper} {v : Value} (hnd : ∀ c, oj.op ≠ .defer c) (hj : ops[j]? = some oj) (hap : oi.apart ops oj = true)
    (hsj : ∀ cs b, oj.op ≠ .select cs b) (hQ : ∀ c a w, Q (.panic c) (a.put oi.dst v) w → Q (.panic c) a w)
    (keep : ∀ (a : Act), Y a → ∀ u, Y (a.put oj.dst u)) (keepD : ∀ (a : Act) d, Y a → Y { a with defers := d :: a.defers }) {K : Act → World → Prop} {a : Act} {w : World}
    (hy : Y a) (h : wpOpIn Fence.wide 100 Tryz.prog ops Q j K (a.put oi.dst v) w) :
    wpOpIn Fence.wide 100 Tryz.prog ops Q j (fun a' w' => Y a' ∧ K (a'.put oi.dst v) w') a w := by
  obtain ⟨h1, h2, h3⟩ := Oper.apart_spec hap
  unfold wpOpIn at *
  simp only [hj] at *
  rw [wanted_put oj a oi.dst v h1, about_put oj w a oi.dst v h1] at h
  split
  · rename_i hw
    simp only [hw, if_true] at h
    unfold Oper.wpIn at *
    rw [about_put oj w a oi.dst v h1] at h
    refine ⟨h.1, ?_⟩
    have h := h.2
    rw [Oper.semAt_eq _ _ _ hnd, execOp_put oj hsj a oi.dst v h1] at h
    rw [Oper.semAt_eq _ _ _ hnd]
    generalize (execOp a.eval oj).run Tryz.prog w = r at *
    cases r with
    | ok x w' =>
      cases x <;> simp only [Oper.uponIn] at h ⊢
      case value u => exact ⟨keep a hy u, by rw [← Act.put_comm a v u h2]; exact h⟩
      case skip => exact ⟨keep a hy _, by rw [← Act.put_comm a v undef h2]; exact h⟩
      case defer d =>
        refine ⟨keep _ (keepD a d hy) _, ?_⟩
        rw [← Act.put_comm _ v undef h2, ← Act.put_defers]
        exact h
      case enter f args =>
        refine ⟨h.1, CallsIn.mono h.2 fun e w'' he => ?_⟩
        cases e with
        | returned u => exact ⟨keep a hy u, by rw [← Act.put_comm a v u h2]; exact he⟩
        | panicked c => exact hQ _ _ _ he
        | outgrown => exact he
      case row row args => exact ⟨h.1, RowsIn.mono h.2 fun u w'' he => ⟨keep a hy u, by rw [← Act.put_comm a v u h2]; exact he⟩⟩
      case round l f tmps assign body =>
        refine ⟨h.1, RoundIn.mono h.2 fun e w'' he => ?_⟩
        cases e with
        | returned u => exact ⟨keep a hy u, by rw [← Act.put_comm a v u h2]; exact he⟩
        | panicked c => exact hQ _ _ _ he
        | outgrown => exact he
    | halt x w' =>
      cases x <;> simp only [Oper.uponIn] at h ⊢
      case panic u => exact hQ _ _ _ h
  · rename_i hw
    simp only [hw] at h
    exact ⟨h.1, keep a hy _, by rw [← Act.put_comm a v undef h2]; exact h.2⟩
theorem wpOpIn_off {i : Nat} {o : Oper} {a : Act} (hi : ops[i]? = some o) (hw : Region.wanted o (yielded ops a.tmps) = false) {K : Act → World → Prop} {w : World} (h : K (a.put o.dst undef) w) :
    wpOpIn Fence.wide 100 Tryz.prog ops Q i K a w := by
  unfold wpOpIn
  simp only [hi, hw]
  exact ⟨fun _ _ => trivial, h⟩
theorem AnyS.offF {S : World → Prop} {i : Nat} {oi : Oper} (hnd : ∀ (j : Nat) (o : Oper) c, ops[j]? = some o → o.op ≠ .defer c) (hi : ops[i]? = some oi) (hsel : ∀ (j : Nat) (o : Oper) cs b, ops[j]? = some o → o.op ≠ .select cs b)
    (hQ : ∀ c a w, Q (.panic c) (a.put oi.dst undef) w → Q (.panic c) a w) :
    ∀ (fuel : Nat) (listed : Array Bool) (a : Act) (w : World),
      (∀ j oj, ops[j]? = some oj → j ≠ i → listed.getD j true = false → (∀ e ∈ oj.after, Region.binds md e = true → e.on ≠ i) → oi.apart ops oj = true) →
      i ∈ Region.ready md ops listed → S w → Region.wanted oi (yielded ops a.tmps) = false →
      AnyS Fence.wide 100 Tryz.prog md ops Q S fuel (listed.setIfInBounds i true) (a.put oi.dst undef) w → AnyS Fence.wide 100 Tryz.prog md ops Q S (fuel + 1) listed a w := by
  intro fuel
  induction fuel with
  | zero =>
    intro listed a w _ hr hS hy H
    refine ⟨fun h => (by rw [h] at hr; cases hr), fun j hj => ?_⟩
    by_cases hji : j = i
    · subst hji
      exact wpOpIn_off hi hy ⟨hS, H⟩
    · have := ready_mono hj hji
      rw [H.1] at this
      cases this
  | succ fuel ih =>
    intro listed a w hfree hr hS hy H
    refine ⟨fun h => (by rw [h] at hr; cases hr), fun j hj => ?_⟩
    by_cases hji : j = i
    · subst hji
      exact wpOpIn_off hi hy ⟨hS, H⟩
    · have h1 := H.2 j (ready_mono hj hji)
      obtain ⟨hjun, oj, hoj, hall⟩ := mem_ready.1 hj
      have hnot : ∀ e ∈ oj.after, Region.binds md e = true → e.on ≠ i := fun e he hb heq => by
        have h1 := hall e he hb
        have h0 := (mem_ready.1 hr).1
        rw [heq] at h1
        rcases Nat.lt_or_ge i listed.size with h' | h'
        · simp [h'] at h0 h1
          rw [h0] at h1
          cases h1
        · simp [Array.getElem?_eq_none h'] at h1
      have hap := hfree j oj hoj hji hjun hnot
      have h2 := wpOpIn_putY (Y := fun a => Region.wanted oi (yielded ops a.tmps) = false) (i := i) (fun c => hnd _ _ c hoj) hoj hap (fun cs b => hsel j oj cs b hoj) hQ
        (fun a hy u => by rw [wanted_put oi a oj.dst u (Oper.apart_spec hap).2.2]; exact hy) (fun a d hy => hy) hy h1
      have hfree' : ∀ k ok, ops[k]? = some ok → k ≠ i → (listed.setIfInBounds j true).getD k true = false →
          (∀ e ∈ ok.after, Region.binds md e = true → e.on ≠ i) → oi.apart ops ok = true := fun k ok hk hki hun hno => by
        refine hfree k ok hk hki ?_ hno
        by_cases hjk : j = k
        · subst hjk
          exact hjun
        · rw [getD_set_ne true hjk] at hun
          exact hun
      refine wpOpIn_mono (fun a' w' h3 => ⟨h3.2.1, ih (listed.setIfInBounds j true) a' w' hfree' (ready_mono hr (Ne.symm hji)) h3.2.1 h3.1 ?_⟩) h2
      rw [Array.setIfInBounds_comm _ _ hji]
      exact h3.2.2
theorem AnyS.off {S : World → Prop} {i : Nat} {oi : Oper} {fuel : Nat} {listed : Array Bool} {a : Act} {w : World} (hnd : noDefer ops = true) (hi : ops[i]? = some oi)
    (hs : Region.noSelect ops = true) (hf : Region.free md ops listed i = true) (hr : (Region.ready md ops listed).contains i = true)
    (hQ : ∀ c a w, Q (.panic c) (a.put oi.dst undef) w → Q (.panic c) a w) (hS : S w) (hy : Region.wanted oi (yielded ops a.tmps) = false)
    (h : AnyS Fence.wide 100 Tryz.prog md ops Q S fuel (listed.setIfInBounds i true) (a.put oi.dst undef) w) : AnyS Fence.wide 100 Tryz.prog md ops Q S (fuel + 1) listed a w :=
  AnyS.offF (noDefer_spec hnd) hi (Region.noSelect_spec hs) hQ fuel listed a w (Region.free_spec hi hf) (by simpa using hr) hS hy h
theorem AnyS.two {S : World → Prop} {i j : Nat} {fuel : Nat} {listed : Array Bool} {a : Act} {w : World} (hr : Region.ready md ops listed = [i, j])
    (hi : wpOpIn Fence.wide 100 Tryz.prog ops Q i (fun a w => S w ∧ AnyS Fence.wide 100 Tryz.prog md ops Q S fuel (listed.setIfInBounds i true) a w) a w)
    (hj : wpOpIn Fence.wide 100 Tryz.prog ops Q j (fun a w => S w ∧ AnyS Fence.wide 100 Tryz.prog md ops Q S fuel (listed.setIfInBounds j true) a w) a w) : AnyS Fence.wide 100 Tryz.prog md ops Q S (fuel + 1) listed a w :=
  ⟨fun h0 => (by rw [hr] at h0; cases h0), fun k hk => by
    rw [hr] at hk
    rcases List.mem_cons.1 hk with rfl | hk
    · exact hi
    · rw [List.mem_singleton] at hk
      subst hk
      exact hj⟩
/-- The call of At, the new block and the store of what the call gave: the block comes first or last. -/
theorem AnyS.atAlloc {S : World → Prop} {i j k : Nat} {oi oj ok : Oper} {listed : Array Bool} {a : Act} {w : World} {fuel : Nat} {args : Array Value} {us : Us} (ti tj : Nat)
    (hoi : ops[i]? = some oi) (hoj : ops[j]? = some oj) (hok : ops[k]? = some ok) (wi : ∀ t, Region.wanted oi t = true) (wj : ∀ t, Region.wanted oj t = true) (wk : ∀ t, Region.wanted ok t = true)
    (ni : ∀ c, oi.op ≠ .defer c) (nj : ∀ c, oj.op ≠ .defer c) (nk : ∀ c, ok.op ≠ .defer c) (di : oi.dst = some ti) (dj : oj.dst = some tj) (dk : ok.dst = none) (dij : ti ≠ tj)
    (r0 : Region.ready md ops listed = [i, j]) (ri : Region.ready md ops (listed.setIfInBounds i true) = [j]) (rj : Region.ready md ops (listed.setIfInBounds j true) = [i])
    (rij : Region.ready md ops ((listed.setIfInBounds i true).setIfInBounds j true) = [k]) (rji : Region.ready md ops ((listed.setIfInBounds j true).setIfInBounds i true) = [k])
    (re : Region.ready md ops (((listed.setIfInBounds i true).setIfInBounds j true).setIfInBounds k true) = []) (re' : Region.ready md ops (((listed.setIfInBounds j true).setIfInBounds i true).setIfInBounds k true) = [])
    (ci : ∀ w, (execOp a.eval oi).run Tryz.prog w = .ok (.enter 18 args) w) (ci' : ∀ p w, (execOp (a.put (some tj) p).eval oi).run Tryz.prog w = .ok (.enter 18 args) w)
    (cj : ∀ w, (execOp a.eval oj).run Tryz.prog w = .ok (.value (.pointer (some ⟨w.heap.size, 0, none⟩))) (w.alloc (.cells #[nilS, nilS, nilS, nilS, nilS] 40)))
    (cj' : ∀ u w, (execOp (a.put (some ti) u).eval oj).run Tryz.prog w = .ok (.value (.pointer (some ⟨w.heap.size, 0, none⟩))) (w.alloc (.cells #[nilS, nilS, nilS, nilS, nilS] 40)))
    (ck : ∀ b A0 n0 k0 A1 n1 k1 A2 n2 k2 A3 n3 k3 A4 n4 k4 w, (∀ j, w.cell? ⟨b, j, none⟩ = (#[nilS, nilS, nilS, nilS, nilS] : Array Value)[j]?) → (∀ j, w.frozen? ⟨b, j, none⟩ = false) → (execOp ((a.put (some ti) (.agg #[.slice A0 n0 k0, .slice A1 n1 k1, .slice A2 n2 k2, .slice A3 n3 k3, .slice A4 n4 k4])).put (some tj) (.pointer (some ⟨b, 0, none⟩))).eval ok).run Tryz.prog w = .ok .skip (set5 w b (.slice A0 n0 k0) (.slice A1 n1 k1) (.slice A2 n2 k2) (.slice A3 n3 k3) (.slice A4 n4 k4)))
    (hcall : ∀ w', Below w.heap.size w w' → Calls Tryz.prog 18 args w' (UsPost w' us))
    (hS : ∀ w', Below w.heap.size w w' → S w')
    (hQ : ∀ b A0 k0 A1 k1 A2 k2 A3 k3 A4 k4 w', Below w.heap.size w w' → w.heap.size ≤ b → Bx w' b 40 #[.slice A0 us.copies.length k0, .slice A1 us.moves.length k1, .slice A2 us.shares.length k2, .slice A3 us.lends.length k3, .slice A4 us.defs.length k4] → RUs (look [b] w') (.agg #[.slice A0 us.copies.length k0, .slice A1 us.moves.length k1, .slice A2 us.shares.length k2, .slice A3 us.lends.length k3, .slice A4 us.defs.length k4]) us →
      Q .normal ((a.put (some ti) (.agg #[.slice A0 us.copies.length k0, .slice A1 us.moves.length k1, .slice A2 us.shares.length k2, .slice A3 us.lends.length k3, .slice A4 us.defs.length k4])).put (some tj) (.pointer (some ⟨b, 0, none⟩))) w') :
    AnyS Fence.wide 100 Tryz.prog md ops Q S (fuel + 3) listed a w := by
  have hst : ∀ b u w1 lst, (Region.ready md ops lst = [k]) → Region.ready md ops (lst.setIfInBounds k true) = [] → Below w.heap.size w w1 → w.heap.size ≤ b → Bx w1 b 40 #[nilS, nilS, nilS, nilS, nilS] → RUs (look [b] w1) u us →
      AnyS Fence.wide 100 Tryz.prog md ops Q S (fuel + 1) lst ((a.put (some ti) u).put (some tj) (.pointer (some ⟨b, 0, none⟩))) w1 := by
    intro b u w1 lst h1 h2 hb hbb hx hu
    obtain ⟨A0, k0, A1, k1, A2, k2, A3, k3, A4, k4, rfl⟩ := hu.open
    refine AnyS.one h1 (wpOp_skip hok wk nk (ck b _ _ _ _ _ _ _ _ _ _ _ _ _ _ _ w1 hx.cell hx.frozen) ?_)
    have hch : Chg [b] w1 (set5 w1 b (.slice A0 us.copies.length k0) (.slice A1 us.moves.length k1) (.slice A2 us.shares.length k2) (.slice A3 us.lends.length k3) (.slice A4 us.defs.length k4)) := (Chg.refl _ _).put5 (.inl (by simp)) _ _ _ _ _
    have hb' : Below w.heap.size w (set5 w1 b (.slice A0 us.copies.length k0) (.slice A1 us.moves.length k1) (.slice A2 us.shares.length k2) (.slice A3 us.lends.length k3) (.slice A4 us.defs.length k4)) := Bl.chg hb hch (fun i hi => by rw [List.mem_singleton] at hi; omega)
    refine ⟨hS _ hb', AnyS.done h2 ?_ _⟩
    rw [dk]
    exact hQ b _ _ _ _ _ _ _ _ _ _ _ hb' hbb (hx.set5 _ _ _ _ _) (hu.mono hch.le)
  refine AnyS.two r0 ?_ ?_
  · refine wpOp_enter (R := fun v w' => RUs w'.cell? v us ∧ Below w.heap.size w w') hoi wi ni (ci w) ((hcall w (Below.refl _ _)).mono ?_) ?_
    · rintro e w' ⟨⟨v, rfl, h⟩, hb⟩
      exact ⟨v, rfl, h, hb⟩
    · rintro u w1 ⟨hu, hb1⟩
      refine ⟨hS _ hb1, AnyS.one ri (wpOp_value hoj wj nj (by rw [di]; exact cj' u w1) ?_)⟩
      have hb2 := Bl.alloc hb1 (.cells #[nilS, nilS, nilS, nilS, nilS] 40)
      refine ⟨hS _ hb2, ?_⟩
      rw [di, dj]
      refine hst _ _ _ _ rij re hb2 hb1.size (Bx.at0 _ _ _ rfl) (hu.mono (le_lookD (Bl.alloc (Below.refl _ _) _) (fun k hk => by rw [List.mem_singleton] at hk; omega)))
  · refine wpOp_value hoj wj nj (cj w) ?_
    have hb1 : Below w.heap.size w (w.alloc (.cells #[nilS, nilS, nilS, nilS, nilS] 40)) := Bl.alloc (Below.refl _ _) _
    refine ⟨hS _ hb1, AnyS.one rj ?_⟩
    refine wpOp_enter (R := fun v w' => RUs w'.cell? v us ∧ Below (w.alloc (.cells #[nilS, nilS, nilS, nilS, nilS] 40)).heap.size (w.alloc (.cells #[nilS, nilS, nilS, nilS, nilS] 40)) w') hoi wi ni (by rw [dj]; exact ci' _ _) ((hcall _ hb1).mono ?_) ?_
    · rintro e w' ⟨⟨v, rfl, h⟩, hb⟩
      exact ⟨v, rfl, h, hb⟩
    · rintro u w2 ⟨hu, hb2⟩
      have hbw := Bl.call hb1 hb2
      refine ⟨hS _ hbw, ?_⟩
      rw [di, dj, Act.put_comm a _ _ (x := some tj) (y := some ti) (by intro d h1 h2; cases h1; cases h2; exact dij rfl)]
      have hx : Bx w2 w.heap.size 40 #[nilS, nilS, nilS, nilS, nilS] := (Bx.at0 _ _ _ rfl).below hb2
      exact hst _ _ _ _ rji re' hbw (Nat.le_refl _) hx (hu.avoid hx nil5_no)
end
end Go.Proofs.YtdkjkgokllmkmaaGreatDoor.Lv
