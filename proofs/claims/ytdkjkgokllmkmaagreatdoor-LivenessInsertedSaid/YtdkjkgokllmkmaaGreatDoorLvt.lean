/- Walks: the sets of package liveness: Equal, Clone. -/
import Derived.Test.YtdkjkgokllmkmaaGreatDoorLvs
namespace Go.Proofs.YtdkjkgokllmkmaaGreatDoor.Lv
open Go.RowKit
set_option linter.unusedVariables false
set_option linter.unusedSimpArgs false
theorem Tryz.info4 : (Tryz.prog.info? 4).map (fun i => (i.zero, i.size, i.bytes)) = some (some (.bool false), 1, 1) := by kernel_rfl
theorem eq_of_takes {xs ys : List Bool} {n : Nat} (hx : n = xs.length) (hy : n = ys.length) (h : xs.take n = ys.take n) : xs = ys := by
  rwa [hx, List.take_length, ← hx, hy, List.take_length] at h
set_option maxHeartbeats 2000000 in
set_option maxRecDepth 100000 in
theorem equal_any (va vb : Value) (xs ys : List Bool) (w : World) (ha : RBools w.cell? va xs) (hb : RBools w.cell? vb ys) (hy : ys.length = xs.length) :
    Calls Tryz.prog 46 #[va, vb] w fun e w' => e = .returned (.bool (decide (xs = ys))) ∧ Below w.heap.size w w' := by
  obtain ⟨A, cap, rfl, h1, h2, h3⟩ := ha
  obtain ⟨B, cap', rfl, g1, g2, g3⟩ := hb
  have HA := Lib.hid h3
  have HB := Lib.hid g3
  have hxl : (xs.length : Int) ≤ 9223372036854775807 := by unfold maxLen at h2; omega
  obtain ⟨n, hn⟩ : ∃ n, n = xs.length := ⟨_, rfl⟩
  rw [hy, ← hn]
  rw [← hn] at hxl
  have HN := Lib.hid hn
  have HY := Lib.hid hy
  clear h3 g3 hy hn h1 g1
  go_enter Tryz.func46, Tryz.ntmps46
  go_wp2_with fail
  go_loopw [13] (fun i wr => ∃ (k : Nat), i = .int .i64 k ∧ k ≤ n ∧ Hid (xs.take k = ys.take k) ∧ Hid (Below w.heap.size w wr)) (fun i _ => n - (intOf i).toNat)
  case atStart => exact ⟨0, rfl, Nat.zero_le _, (by simp [Hid]), Below.refl _ _⟩
  case round =>
    obtain ⟨k, rfl, hk, HE, HW⟩ := hrel
    by_cases hlt : k < n
    · have hlx : k < xs.length := by rw [← HN.out]; exact hlt
      have hly : k < ys.length := by rw [HY.out]; exact hlx
      obtain ⟨ad, rfl, ca⟩ := (HA.out.mono monoBool (Bl.le HW.out)).bool_at' k hlx
      obtain ⟨bd, rfl, cb⟩ := (HB.out.mono monoBool (Bl.le HW.out)).bool_at' k hly
      have hki : (k : Int) < (n : Int) := by omega
      obtain ⟨x, hx⟩ : ∃ x, x = xs.getD k false := ⟨_, rfl⟩
      obtain ⟨y, hyy⟩ : ∃ y, y = ys.getD k false := ⟨_, rfl⟩
      rw [← hx] at ca
      rw [← hyy] at cb
      have HX := Lib.hid hx
      have HYY := Lib.hid hyy
      clear hx hyy
      have HXS : Hid (xs.take (k + 1) = xs.take k ++ [x]) := by show _ = _; rw [take_snoc xs k false hlx, HX.out]
      have HYS : Hid (ys.take (k + 1) = ys.take k ++ [y]) := by show _ = _; rw [take_snoc ys k false hly, HYY.out]
      clear hlx hly
      by_cases hxy : x = y
      · subst hxy
        have HE2 : Hid (xs.take (k + 1) = ys.take (k + 1)) := by show _ = _; rw [HXS.out, HYS.out, HE.out]
        clear HXS HYS HE
        cases x
        all_goals
          go_wp2_with fail
          go_quiet (fail)
          go_wp2_with fail
          go_roundw
          case rel => exact ⟨k + 1, by go_num, by omega, HE2, by first | exact HW | exact Bl.drew HW.out | exact Bl.drewN HW.out _⟩
          case measure => simp [intOf]; omega
      · have HE2 : Hid (decide (xs = ys) = false) := by
          refine decide_eq_false (fun e => ?_)
          have h1 := HXS.out
          rw [e, HYS.out] at h1
          have := List.append_inj_right' h1 rfl
          simp only [List.cons.injEq, and_true] at this
          exact hxy this.symm
        clear HXS HYS HE
        cases x <;> cases y
        · exact absurd rfl hxy
        · go_wp2_with fail
          go_quiet (fail)
          go_wp2_with fail
          go_ret
          exact ⟨by rw [HE2.out]; rfl, by first | exact HW.out | exact Bl.drew HW.out | exact Bl.drewN HW.out _⟩
        · go_wp2_with fail
          go_quiet (fail)
          go_wp2_with fail
          go_ret
          exact ⟨by rw [HE2.out]; rfl, by first | exact HW.out | exact Bl.drew HW.out | exact Bl.drewN HW.out _⟩
        · exact absurd rfl hxy
    · obtain rfl : k = n := by omega
      have HE2 : Hid (decide (xs = ys) = true) := decide_eq_true (eq_of_takes HN.out (HN.out.trans HY.out.symm) HE.out)
      go_wp2
      go_ret
      exact ⟨by rw [HE2.out]; rfl, HW.out⟩
set_option maxHeartbeats 2000000 in
set_option maxRecDepth 100000 in
theorem clone_any (v : Value) (xs : List Bool) (w : World) (h : RBools w.cell? v xs) (hl : xs.length ≤ 1000000) :
    Calls Tryz.prog 55 #[v] w fun e w' => (∃ v', e = .returned v' ∧ OSet w.heap.size w' v' xs) ∧ Below w.heap.size w w' := by
  obtain ⟨A, cap, rfl, h1, h2, h3⟩ := h
  rcases A with _ | ad
  · have hx : xs = [] := by
      rcases xs with _ | ⟨x, xs⟩
      · rfl
      · obtain ⟨ad, _, e, _⟩ := h3 0 x rfl
        cases e
    subst hx
    have he : ∀ w : World, (binOp .eql 83 (.slice none ([] : List Bool).length cap) (.slice none 0 0)).run Tryz.prog w = .ok (.bool true) w := fun _ => rfl
    simp only [List.length_nil] at he ⊢
    go_enter Tryz.func55, Tryz.ntmps55
    go_wp2
    go_ret
    exact ⟨⟨_, rfl, World.ownsRow_nil _ _ _ _⟩, Below.refl _ _⟩
  · have HL := Lib.hid h3
    clear h3
    have he : ∀ w : World, (binOp .eql 83 (.slice (some ad) xs.length cap) (.slice none 0 0)).run Tryz.prog w = .ok (.bool false) w := fun _ => rfl
    go_enter Tryz.func55, Tryz.ntmps55
    obtain ⟨i0, hi0, hz0, hz1, hz2⟩ := info_parts Tryz.info4
    have HNEW : Hid (∀ j u, (bools xs)[j]? = some u → (w.alloc (.cells #[] 4)).cell? (ad.add j) = some u) := by
      intro j u hu
      have hj : j < xs.length := by
        have := (List.getElem?_eq_some_iff.1 hu).1
        simpa [bools] using this
      obtain ⟨ad', e, c⟩ := HL.out.bool_at' j hj
      simp only [Option.some.injEq] at e
      subst e
      have := Bl.le (Bl.alloc (Below.refl w.heap.size w) (.cells #[] 4)) _ _ c
      rw [this, ← hu]
      simp [bools, List.getD_eq_getElem?_getD, hj]
    have HOWN : Hid ((w.alloc (.cells #[] 4)).ownsRow w.heap.size 4 1 (.slice (some ⟨w.heap.size, 0, none⟩) 0 0) 0 []) := World.ownsRow_made w #[] 0 (Nat.le_refl _) (by simp [maxLen]) rfl
    go_wp2_with (at_builtin; refine wpList_append_own_at _ rfl _ _ 83 rfl w.heap.size 4 i0 (.bool false) 1 1 Tryz.underlying83 hi0 hz0 hz1 hz2 rfl (by decide) _ _ _ rfl HOWN.out ad xs.length cap (bools xs) rfl (by simp [bools]) HNEW.out (by intro u hu; simp only [bools, List.mem_map] at hu; obtain ⟨b, _, rfl⟩ := hu; rfl) (by unfold maxLen; omega) (by omega) (by simp) ?_; intro v' w1 hown1 hgrow _ hat; have HO1 := Lib.hid hown1; have HG1 := Lib.hid hgrow; clear hown1 hgrow hat)
    go_ret
    refine ⟨⟨_, rfl, ?_⟩, ?_⟩
    · have := HO1.out
      simpa [OSet] using this
    · exact (Bl.alloc (Below.refl _ _) _).grown HG1.out (by simp) (fun k hk => (HOWN.out.lt k hk).1)
end Go.Proofs.YtdkjkgokllmkmaaGreatDoor.Lv
