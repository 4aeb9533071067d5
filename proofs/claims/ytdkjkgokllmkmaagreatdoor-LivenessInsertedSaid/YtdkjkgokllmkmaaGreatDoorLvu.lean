/- Walks: through of package liveness. -/
import Derived.Test.YtdkjkgokllmkmaaGreatDoorLvt
import Derived.Test.YtdkjkgokllmkmaaGreatDoorLvq
namespace Go.Proofs.YtdkjkgokllmkmaaGreatDoor.Lv
open Go.RowKit
set_option linter.unusedVariables false
set_option linter.unusedSimpArgs false
def thr (u : Us) (xs : List Bool) : List Bool := putsL (putsL xs false u.defs) true (cats [u.copies, u.moves, u.shares, u.lends])
theorem thr_len (u : Us) (xs : List Bool) : (thr u xs).length = xs.length := by unfold thr; rw [putsL_len, putsL_len]
theorem thr_get (u : Us) (xs : List Bool) (v : Nat) (h : v < xs.length) : (thr u xs).getD v false = (u.used v || (!u.defd v && xs.getD v false)) := by
  unfold thr
  rw [putsL_get _ _ _ _ (by rw [putsL_len]; exact h), putsL_get _ _ _ _ h]
  unfold Us.used Us.defd
  by_cases h1 : (v : Int) ∈ cats [u.copies, u.moves, u.shares, u.lends]
  · rw [if_pos h1]
    simp [cats] at h1
    rcases h1 with h1 | h1 | h1 | h1 <;> simp [h1]
  · rw [if_neg h1]
    simp [cats] at h1
    by_cases h2 : (v : Int) ∈ u.defs <;> simp [h1, h2]
theorem rlists_box {w : World} {D : List Nat} {b t : Nat} {vs : List Value} {ls : List (List Int)} (h : Bx w b t vs.toArray) (hb : b ∉ D) (hlen : vs.length = ls.length) (hm : ls.length ≤ maxLen)
    (hr : ∀ j, j < ls.length → RInts (look D w) (vs.getD j default) (ls.getD j [])) : RSl (KSl KInt 1) 1 (look D w) (.slice (some ⟨b, 0, none⟩) ls.length ls.length) ls := by
  refine ⟨_, _, rfl, Nat.le_refl _, hm, fun j l hj => ?_⟩
  have hjl := (List.getElem?_eq_some_iff.1 hj).1
  have hr1 := hr j hjl
  rw [List.getD_eq_getElem?_getD (l := ls), hj] at hr1
  refine ⟨⟨b, 0, none⟩, [vs.getD j default], rfl, rfl, ⟨_, rfl, hr1⟩, fun i u hu => ?_⟩
  obtain rfl : i = 0 := by
    rcases i with _ | i
    · rfl
    · simp at hu
  simp only [List.getElem?_cons_zero, Option.some.injEq] at hu
  subst hu
  refine cell_look (by unfold Addr.add; split <;> exact hb) ?_
  simp only [Nat.mul_one, Nat.add_zero, Addr.add, Nat.zero_add]
  have := h.cell j
  by_cases h0 : j = 0
  · subst h0
    simp
    rw [h.cell 0]
    simp [List.getD_eq_getElem?_getD, show 0 < vs.length by omega]
  · simp [h0]
    rw [this]
    simp [List.getD_eq_getElem?_getD, show j < vs.length by omega]
theorem OSet.tag {base : Nat} {w : World} {v : Value} {xs : List Bool} (h : OSet base w v xs) {b t : Nat} {cs : Array Value} (hb : Bx w b t cs) (ht : t ≠ 4) : some b ≠ v.ownBlock := hb.not_row h ht
theorem OSet.base {base base' : Nat} {w : World} {v : Value} {xs : List Bool} (h : OSet base w v xs) (hb : base' ≤ base) : OSet base' w v xs := by
  refine ⟨h.1, ?_⟩
  rcases h.2 with h1 | ⟨g, cap, cur, h1, h2, h3⟩
  · exact .inl h1
  · exact .inr ⟨g, cap, cur, h1, by omega, h3⟩
set_option maxHeartbeats 2000000 in
set_option maxRecDepth 100000 in
theorem through_any (vu v : Value) (u : Us) (xs : List Bool) (w : World) (hu : RUs w.cell? vu u) (h : RBools w.cell? v xs) (hl : xs.length ≤ 1000000) :
    Calls Tryz.prog 45 #[vu, v] w fun e w' => (∃ v', e = .returned v' ∧ OSet w.heap.size w' v' (thr u xs)) ∧ Below w.heap.size w w' := by
  obtain ⟨v0, v1, v2, v3, v4, rfl, q0, q1, q2, q3, q4⟩ := hu
  have I0 := Lib.hid q0
  have I1 := Lib.hid q1
  have I2 := Lib.hid q2
  have I3 := Lib.hid q3
  have I4 := Lib.hid q4
  obtain ⟨A0, k0, rfl, _⟩ := q0
  obtain ⟨A1, k1, rfl, _⟩ := q1
  obtain ⟨A2, k2, rfl, _⟩ := q2
  obtain ⟨A3, k3, rfl, _⟩ := q3
  obtain ⟨A4, k4, rfl, _⟩ := q4
  obtain ⟨A, cap, rfl, h1, h2, h3⟩ := id h
  have H := Lib.hid h
  clear h h3
  go_enter Tryz.func45, Tryz.ntmps45
  go_wp2_with fail
  refine (clone_any _ xs _ (H.out.mono monoBool (Bl.le (Bl.alloc (Below.refl _ _) _))) hl).mono ?_
  rintro e w1 ⟨⟨v', rfl, ho⟩, hb1⟩
  have bU := Bx.below (w' := w1) (b := w.heap.size) (t := 40) (cs := #[.slice A0 u.copies.length k0, .slice A1 u.moves.length k1, .slice A2 u.shares.length k2, .slice A3 u.lends.length k3, .slice A4 u.defs.length k4]) (Bx.at0 _ _ _ rfl) hb1
  have HB1 := Lib.hid (Bl.call (w := w) (Bl.alloc (Below.refl _ _) _) hb1)
  have HO := Lib.hid (ho.base (base' := w.heap.size) (by simp))
  clear ho hb1
  have cU := bU.cell
  have hen57 : ∀ args w, (callFunc 57 args).run Tryz.prog w = .ok (.enter 57 args) w := enter_of Tryz.func57 (by kernel_rfl) rfl
  have hen58 : ∀ args w, (callFunc 58 args).run Tryz.prog w = .ok (.enter 58 args) w := enter_of Tryz.func58 (by kernel_rfl) rfl
  have HE57 := Lib.hid hen57
  have HE58 := Lib.hid hen58
  clear hen57 hen58
  have hDm : ∀ k, v'.ownBlock = some k → k ∈ v'.ownBlock.toList := fun k hk => by simp [hk]
  have hDb : ∀ k, k ∈ v'.ownBlock.toList → w.heap.size ≤ k := fun k hk => (World.ownsRow.lt HO.out k (by simpa using hk)).1
  have hDs : ∀ k, k ∈ v'.ownBlock.toList → k < w1.heap.size := fun k hk => (World.ownsRow.lt HO.out k (by simpa using hk)).2
  have HDM := Lib.hid hDm
  have HDB := Lib.hid hDb
  have HDS := Lib.hid hDs
  clear hDm hDb hDs
  go_wp2_with fail
  refine (each_gen 57 false w.heap.size v' _ xs [u.defs] v'.ownBlock.toList _ HE57.out (fun v xs n w' => remove_any _ v xs n w') ?o1 hl ?r1 HDM.out).mono ?_
  case o1 => exact HO.out.alloc _
  case r1 =>
    refine rlists_box (vs := [_]) (ls := [u.defs]) (Bx.at0 _ _ _ rfl) (fun hm => Nat.lt_irrefl _ (HDS.out _ hm)) rfl (by simp [maxLen]) ?_
    intro j hj
    obtain rfl : j = 0 := by simpa using hj
    exact I4.out.mono monoInt (le_lookD (Bl.alloc HB1.out _) HDB.out)
  rintro e w2 ⟨rfl, ho, hg⟩
  have nU := HO.out.tag bU (by decide)
  have bU2 := (bU.alloc _).grown hg nU
  have HB2 : Hid (Below w.heap.size w w2) := (Bl.alloc HB1.out _).grown hg (Nat.le_trans HB1.out.size (by simp)) (fun k hk => (World.ownsRow.lt HO.out k hk).1)
  have hz := hg.size
  rw [World.size_alloc] at hz
  have HDS2 : Hid (∀ k, k ∈ v'.ownBlock.toList → k < w2.heap.size) := fun k hk => by
    have := HDS.out k hk
    omega
  have e1 : cats [u.defs] = u.defs := by simp [cats]
  rw [e1] at ho
  have HO2 := Lib.hid ho
  clear ho hg hz e1 nU bU cU HO HB1 HDS
  have cU := bU2.cell
  obtain ⟨ys, hys⟩ : ∃ ys, ys = putsL xs false u.defs := ⟨_, rfl⟩
  have HT : Hid (thr u xs = putsL ys true (cats [u.copies, u.moves, u.shares, u.lends])) := by rw [hys]; rfl
  have hyl : ys.length ≤ 1000000 := by rw [hys, putsL_len]; exact hl
  rw [← hys] at HO2
  clear hys
  go_wp2_with fail
  refine (each_gen 58 true w.heap.size v' _ ys [u.copies, u.moves, u.shares, u.lends] v'.ownBlock.toList _ HE58.out (fun v xs n w' => add_any _ v xs n w') ?o2 hyl ?r2 HDM.out).mono ?_
  case o2 => exact HO2.out.alloc _
  case r2 =>
    refine rlists_box (vs := [_, _, _, _]) (ls := [u.copies, u.moves, u.shares, u.lends]) (Bx.at0 _ _ _ rfl) (fun hm => Nat.lt_irrefl _ (HDS2.out _ hm)) rfl (by simp [maxLen]) ?_
    intro j hj
    have hj4 : j = 0 ∨ j = 1 ∨ j = 2 ∨ j = 3 := by simp at hj; omega
    rcases hj4 with rfl | rfl | rfl | rfl
    · exact I0.out.mono monoInt (le_lookD (Bl.alloc HB2.out _) HDB.out)
    · exact I1.out.mono monoInt (le_lookD (Bl.alloc HB2.out _) HDB.out)
    · exact I2.out.mono monoInt (le_lookD (Bl.alloc HB2.out _) HDB.out)
    · exact I3.out.mono monoInt (le_lookD (Bl.alloc HB2.out _) HDB.out)
  rintro e w3 ⟨rfl, ho, hg⟩
  have HB3 : Hid (Below w.heap.size w w3) := (Bl.alloc HB2.out _).grown hg (Nat.le_trans HB2.out.size (by simp)) (fun k hk => HDB.out k (HDM.out k hk))
  rw [← HT.out] at ho
  have HO3 := Lib.hid ho
  clear ho hg cU
  go_wp2_with fail
  go_ret
  exact ⟨⟨_, rfl, HO3.out⟩, HB3.out⟩
end Go.Proofs.YtdkjkgokllmkmaaGreatDoor.Lv
