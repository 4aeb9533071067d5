/- Walks: Same, SameAll of the reference. -/
import Derived.Test.YtdkjkgokllmkmaaGreatDoorLwh
namespace Go.Proofs.YtdkjkgokllmkmaaGreatDoor.Lv
open Go.RowKit
set_option linter.unusedVariables false
set_option linter.unusedSimpArgs false
set_option maxHeartbeats 2000000 in
set_option maxRecDepth 100000 in
theorem same_any (va vb : Value) (xs ys : List Bool) (w : World) (ha : RBools w.cell? va xs) (hb : RBools w.cell? vb ys) :
    Calls Tryz.prog 32 #[va, vb] w fun e w' => e = .returned (.bool (decide (xs = ys))) ∧ Below w.heap.size w w' := by
  obtain ⟨A, cap, rfl, h1, h2, h3⟩ := ha
  obtain ⟨B, cap', rfl, g1, g2, g3⟩ := hb
  by_cases hy : ys.length = xs.length
  case neg =>
    have HE2 : Hid (decide (xs = ys) = false) := decide_eq_false (fun e => hy (by rw [e]))
    have hyi : ¬ (xs.length : Int) = (ys.length : Int) := by omega
    clear h3 g3
    go_enter Tryz.func32, Tryz.ntmps32
    go_wp2
    go_ret
    exact ⟨by rw [HE2.out]; rfl, Below.refl _ _⟩
  have HA := Lib.hid h3
  have HB := Lib.hid g3
  have hxl : (xs.length : Int) ≤ 9223372036854775807 := by unfold maxLen at h2; omega
  obtain ⟨n, hn⟩ : ∃ n, n = xs.length := ⟨_, rfl⟩
  rw [hy, ← hn]
  rw [← hn] at hxl
  have HN := Lib.hid hn
  have HY := Lib.hid hy
  clear h3 g3 hy hn h1 g1
  go_enter Tryz.func32, Tryz.ntmps32
  go_wp2_with fail
  go_loopw [5] (fun i wr => ∃ (k : Nat), i = .int .i64 k ∧ k ≤ n ∧ Hid (xs.take k = ys.take k) ∧ Hid (Below w.heap.size w wr)) (fun i _ => n - (intOf i).toNat)
  case atStart => exact ⟨0, rfl, Nat.zero_le _, (by simp [Hid]), Below.refl _ _⟩
  case round =>
    obtain ⟨k, rfl, hk, HE, HW⟩ := hrel
    by_cases hlt : k < n
    · have hlx : k < xs.length := by rw [← HN.out]; exact hlt
      have hly : k < ys.length := by rw [HY.out]; exact hlx
      obtain ⟨ad, rfl, ca⟩ := (HA.out.mono monoBool (Bl.le HW.out)).bool_at' k hlx
      obtain ⟨bd, rfl, cb⟩ := (HB.out.mono monoBool (Bl.le HW.out)).bool_at' k hly
      have hki : (k : Int) < (n : Int) := by omega
      obtain ⟨x, hx⟩ : ∃ x, x = xs.getD k false := ⟨_, rfl⟩
      obtain ⟨y, hyy⟩ : ∃ y, y = ys.getD k false := ⟨_, rfl⟩
      rw [← hx] at ca
      rw [← hyy] at cb
      have HX := Lib.hid hx
      have HYY := Lib.hid hyy
      clear hx hyy
      have HXS : Hid (xs.take (k + 1) = xs.take k ++ [x]) := by show _ = _; rw [take_snoc xs k false hlx, HX.out]
      have HYS : Hid (ys.take (k + 1) = ys.take k ++ [y]) := by show _ = _; rw [take_snoc ys k false hly, HYY.out]
      clear hlx hly
      by_cases hxy : x = y
      · subst hxy
        have HE2 : Hid (xs.take (k + 1) = ys.take (k + 1)) := by show _ = _; rw [HXS.out, HYS.out, HE.out]
        clear HXS HYS HE
        cases x
        all_goals
          go_wp2_with fail
          go_quiet (fail)
          go_wp2_with fail
          go_roundw
          case rel => exact ⟨k + 1, by go_num, by omega, HE2, by first | exact HW | exact Bl.drew HW.out | exact Bl.drewN HW.out _⟩
          case measure => simp [intOf]; omega
      · have HE2 : Hid (decide (xs = ys) = false) := by
          refine decide_eq_false (fun e => ?_)
          have h1 := HXS.out
          rw [e, HYS.out] at h1
          have := List.append_inj_right' h1 rfl
          simp only [List.cons.injEq, and_true] at this
          exact hxy this.symm
        clear HXS HYS HE
        cases x <;> cases y
        · exact absurd rfl hxy
        · go_wp2_with fail
          go_quiet (fail)
          go_wp2_with fail
          go_ret
          exact ⟨by rw [HE2.out]; rfl, by first | exact HW.out | exact Bl.drew HW.out | exact Bl.drewN HW.out _⟩
        · go_wp2_with fail
          go_quiet (fail)
          go_wp2_with fail
          go_ret
          exact ⟨by rw [HE2.out]; rfl, by first | exact HW.out | exact Bl.drew HW.out | exact Bl.drewN HW.out _⟩
        · exact absurd rfl hxy
    · obtain rfl : k = n := by omega
      have HE2 : Hid (decide (xs = ys) = true) := decide_eq_true (eq_of_takes HN.out (HN.out.trans HY.out.symm) HE.out)
      go_wp2
      go_ret
      exact ⟨by rw [HE2.out]; rfl, HW.out⟩
theorem RRow.set_at {c : Lk} {A : Option Addr} {xss : List (List Bool)} (h : RRow (KSl KBool 1) 1 c A xss) (j : Nat) (hj : j < xss.length) : ∃ ad v, A = some ad ∧ c (ad.add j) = some v ∧ RBools c v (xss.getD j []) := by
  obtain ⟨ad, es, h1, _, ⟨v, rfl, hv⟩, h4⟩ := h j _ (List.getElem?_eq_getElem hj)
  have e : xss.getD j [] = xss[j] := by simp [List.getD_eq_getElem?_getD, hj]
  rw [e]
  exact ⟨ad, v, h1, by have := h4 0 _ rfl; simpa using this, hv⟩
theorem monoSets : MonoK (KSl KBool 1) := monoSl monoBool
theorem eq_of_takes2 {xs ys : List (List Bool)} {n : Nat} (hx : n = xs.length) (hy : n = ys.length) (h : xs.take n = ys.take n) : xs = ys := by
  rwa [hx, List.take_length, ← hx, hy, List.take_length] at h
set_option maxHeartbeats 4000000 in
set_option maxRecDepth 100000 in
theorem sameall_any (va vb : Value) (xs ys : List (List Bool)) (w : World) (ha : RSets w.cell? va xs) (hb : RSets w.cell? vb ys) :
    Calls Tryz.prog 11 #[va, vb] w fun e w' => e = .returned (.bool (decide (xs = ys))) ∧ Below w.heap.size w w' := by
  obtain ⟨A, cap, rfl, h1, h2, h3⟩ := ha
  obtain ⟨B, cap', rfl, g1, g2, g3⟩ := hb
  by_cases hy : ys.length = xs.length
  case neg =>
    have HE2 : Hid (decide (xs = ys) = false) := decide_eq_false (fun e => hy (by rw [e]))
    have hyi : ¬ (xs.length : Int) = (ys.length : Int) := by omega
    clear h3 g3
    go_enter Tryz.func11, Tryz.ntmps11
    go_wp2
    go_ret
    exact ⟨by rw [HE2.out]; rfl, Below.refl _ _⟩
  have HA := Lib.hid h3
  have HB := Lib.hid g3
  have hxl : (xs.length : Int) ≤ 9223372036854775807 := by unfold maxLen at h2; omega
  obtain ⟨n, hn⟩ : ∃ n, n = xs.length := ⟨_, rfl⟩
  rw [hy, ← hn]
  rw [← hn] at hxl
  have HN := Lib.hid hn
  have HY := Lib.hid hy
  clear h3 g3 hy hn h1 g1
  go_enter Tryz.func11, Tryz.ntmps11
  go_wp2_with fail
  go_loopw [5] (fun i wr => ∃ (k : Nat), i = .int .i64 k ∧ k ≤ n ∧ Hid (xs.take k = ys.take k) ∧ Hid (Below w.heap.size w wr)) (fun i _ => n - (intOf i).toNat)
  case atStart => exact ⟨0, rfl, Nat.zero_le _, (by simp [Hid]), Below.refl _ _⟩
  case round =>
    obtain ⟨k, rfl, hk, HE, HW⟩ := hrel
    by_cases hlt : k < n
    · have hlx : k < xs.length := by rw [← HN.out]; exact hlt
      have hly : k < ys.length := by rw [HY.out]; exact hlx
      obtain ⟨ad, u, rfl, ca, hu⟩ := (HA.out.mono monoSets (Bl.le HW.out)).set_at k hlx
      obtain ⟨bd, v, rfl, cb, hv⟩ := (HB.out.mono monoSets (Bl.le HW.out)).set_at k hly
      have hki : (k : Int) < (n : Int) := by omega
      obtain ⟨x, hx⟩ : ∃ x, x = xs.getD k [] := ⟨_, rfl⟩
      obtain ⟨y, hyy⟩ : ∃ y, y = ys.getD k [] := ⟨_, rfl⟩
      rw [← hx] at hu
      rw [← hyy] at hv
      have HX := Lib.hid hx
      have HYY := Lib.hid hyy
      have HU := Lib.hid hu
      have HV := Lib.hid hv
      obtain ⟨A1, k1, rfl, _⟩ := hu
      obtain ⟨A2, k2, rfl, _⟩ := hv
      clear hx hyy
      have HXS : Hid (xs.take (k + 1) = xs.take k ++ [x]) := by show _ = _; rw [take_snoc xs k [] hlx, HX.out]
      have HYS : Hid (ys.take (k + 1) = ys.take k ++ [y]) := by show _ = _; rw [take_snoc ys k [] hly, HYY.out]
      clear hlx hly
      go_wp2_with fail
      refine region_anyS (S := fun w'' => w''.cell? (ad.add k) = some (.slice A1 x.length k1) ∧ w''.cell? (bd.add k) = some (.slice A2 y.length k2)) ?_
      have hSd : (fun w'' : World => w''.cell? (ad.add k) = some (.slice A1 x.length k1) ∧ w''.cell? (bd.add k) = some (.slice A2 y.length k2)) wr.drew := ⟨ca, cb⟩
      (refine AnyS.take (i := 0) (v := ?_) (by kernel_rfl) rfl (by kernel_rfl) (by kernel_rfl) (by kernel_rfl) (fun _ _ _ h => h) (by assumption) ⟨⟨by rfl, ?_⟩, fun _ => rfl⟩ ?_; rotate_left; (rintro w' ⟨hs1, hs2⟩; go_simp; rfl))
      (refine AnyS.take (i := 1) (v := ?_) (by kernel_rfl) rfl (by kernel_rfl) (by kernel_rfl) (by kernel_rfl) (fun _ _ _ h => h) (by assumption) ⟨⟨by rfl, ?_⟩, fun _ => rfl⟩ ?_; rotate_left; (rintro w' ⟨hs1, hs2⟩; go_simp; rfl))
      (refine AnyS.take (i := 2) (v := ?_) (by kernel_rfl) rfl (by kernel_rfl) (by kernel_rfl) (by kernel_rfl) (fun _ _ _ h => h) (by assumption) ⟨⟨by rfl, ?_⟩, fun _ => rfl⟩ ?_; rotate_left; (rintro w' ⟨hs1, hs2⟩; go_simp; rfl))
      (refine AnyS.take (i := 3) (v := ?_) (by kernel_rfl) rfl (by kernel_rfl) (by kernel_rfl) (by kernel_rfl) (fun _ _ _ h => h) (by assumption) ⟨⟨by rfl, ?_⟩, fun _ => rfl⟩ ?_; rotate_left; (rintro w' ⟨hs1, hs2⟩; go_simp; rfl))
      (refine AnyS.take (i := 4) (v := ?_) (by kernel_rfl) rfl (by kernel_rfl) (by kernel_rfl) (by kernel_rfl) (fun _ _ _ h => h) (by assumption) ⟨⟨by rfl, ?_⟩, fun _ => rfl⟩ ?_; rotate_left; (rintro w' ⟨hs1, hs2⟩; go_simp; rfl))
      (refine AnyS.take (i := 5) (v := ?_) (by kernel_rfl) rfl (by kernel_rfl) (by kernel_rfl) (by kernel_rfl) (fun _ _ _ h => h) (by assumption) ⟨⟨by rfl, ?_⟩, fun _ => rfl⟩ ?_; rotate_left; (rintro w' ⟨hs1, hs2⟩; go_simp; rfl))
      (refine AnyS.take (i := 6) (v := ?_) (by kernel_rfl) rfl (by kernel_rfl) (by kernel_rfl) (by kernel_rfl) (fun _ _ _ h => h) (by assumption) ⟨⟨by rfl, ?_⟩, fun _ => rfl⟩ ?_; rotate_left; (rintro w' ⟨hs1, hs2⟩; go_simp; rfl))
      (refine AnyS.take (i := 7) (v := ?_) (by kernel_rfl) rfl (by kernel_rfl) (by kernel_rfl) (by kernel_rfl) (fun _ _ _ h => h) (by assumption) ⟨⟨by rfl, ?_⟩, fun _ => rfl⟩ ?_; rotate_left; (rintro w' ⟨hs1, hs2⟩; go_simp; rfl))
      refine AnyS.one (i := 8) (by kernel_rfl) ?_
      refine wpOpIn_step rfl (fun K hK => ?_)
      go_simp
      refine ⟨trivial, ?_⟩
      refine (callsIn_wide.2 (same_any _ _ x y _ (HU.out.mono monoBool (Bl.le (Bl.drew (Below.refl _ _)))) (HV.out.mono monoBool (Bl.le (Bl.drew (Below.refl _ _)))))).mono ?_
      rintro e w1 ⟨rfl, hb1⟩
      have hS1 : (fun w'' : World => w''.cell? (ad.add k) = some (.slice A1 x.length k1) ∧ w''.cell? (bd.add k) = some (.slice A2 y.length k2)) w1 := ⟨Bl.le (Bl.call (w := wr) (Bl.drew (Below.refl _ _)) hb1) _ _ ca, Bl.le (Bl.call (w := wr) (Bl.drew (Below.refl _ _)) hb1) _ _ cb⟩
      refine hK _ _ ⟨hS1, ?_⟩
      have HW1 := Lib.hid (Bl.call (Bl.drew HW.out) hb1)
      clear hK K hb1 hSd ca cb HU HV
      by_cases hxy : x = y
      · have HE2 : Hid (xs.take (k + 1) = ys.take (k + 1)) := by show _ = _; rw [HXS.out, HYS.out, HE.out, hxy]
        rw [decide_eq_true hxy]
        clear HXS HYS HE hxy
        (refine AnyS.take (i := 9) (v := ?_) (by kernel_rfl) rfl (by kernel_rfl) (by kernel_rfl) (by kernel_rfl) (fun _ _ _ h => h) (by assumption) ⟨⟨by rfl, ?_⟩, fun _ => rfl⟩ ?_; rotate_left; (rintro w' ⟨hs1, hs2⟩; go_simp; rfl))
        refine AnyS.done (by kernel_rfl) ?_ _
        clear hS1
        go_wp2_with fail
        go_roundw
        case rel => exact ⟨k + 1, by go_num, by omega, HE2, HW1⟩
        case measure => simp [intOf]; omega
      · have HE2 : Hid (decide (xs = ys) = false) := by
          refine decide_eq_false (fun e => ?_)
          have h1 := HXS.out
          rw [e, HYS.out] at h1
          have := List.append_inj_right' h1 rfl
          simp only [List.cons.injEq, and_true] at this
          exact hxy this.symm
        rw [decide_eq_false hxy]
        clear HXS HYS HE hxy
        (refine AnyS.take (i := 9) (v := ?_) (by kernel_rfl) rfl (by kernel_rfl) (by kernel_rfl) (by kernel_rfl) (fun _ _ _ h => h) (by assumption) ⟨⟨by rfl, ?_⟩, fun _ => rfl⟩ ?_; rotate_left; (rintro w' ⟨hs1, hs2⟩; go_simp; rfl))
        refine AnyS.done (by kernel_rfl) ?_ _
        clear hS1
        go_wp2_with fail
        go_ret
        exact ⟨by rw [HE2.out]; rfl, HW1.out⟩
    · obtain rfl : k = n := by omega
      have HE2 : Hid (decide (xs = ys) = true) := decide_eq_true (eq_of_takes2 HN.out (HN.out.trans HY.out.symm) HE.out)
      go_wp2
      go_ret
      exact ⟨by rw [HE2.out]; rfl, HW.out⟩
end Go.Proofs.YtdkjkgokllmkmaaGreatDoor.Lv
