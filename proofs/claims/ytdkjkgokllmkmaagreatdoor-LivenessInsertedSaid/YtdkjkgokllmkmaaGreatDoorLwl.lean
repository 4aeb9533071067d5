/- Walks: Few, Small. -/
import Derived.Test.YtdkjkgokllmkmaaGreatDoorLvk
namespace Go.Proofs.YtdkjkgokllmkmaaGreatDoor.Lv
open Go.RowKit
set_option linter.unusedVariables false
set_option linter.unusedSimpArgs false
theorem Ty.arg_size {T : Ty} {j : Nat} (h : j < T.args.length) : SizeOf.sizeOf (T.args.getD j default) < SizeOf.sizeOf T := by
  cases T with
  | mk k i args =>
    have hm : args.getD j default ∈ args := getD_mem h
    have := List.sizeOf_lt_of_mem hm
    simp only [Ty.args, Ty.mk.sizeOf_spec]
    omega
set_option maxHeartbeats 4000000 in
set_option maxRecDepth 100000 in
theorem few_any : ∀ (N : Nat) (T : Ty), SizeOf.sizeOf T ≤ N → ∀ (m : Int) (vt : Value) (w : World), RSl KTy 3 w.cell? vt T.args →
    Calls Tryz.prog 30 #[.agg #[.int .i64 T.kind, .int .i64 T.id, vt], .int .i64 m] w fun e w' => (∃ n : Int, e = .returned (.int .i64 n)) ∧ Below w.heap.size w w' := by
  intro N
  induction N with
  | zero => intro T hT; cases T; simp at hT
  | succ N ih =>
    intro T hT m vt w hv
    obtain ⟨A, k, rfl, h1, h2, h3⟩ := hv
    have HA := Lib.hid h3
    have IH := Lib.hid ih
    have HT := Lib.hid hT
    clear h3 ih hT
    have hxl : (T.args.length : Int) ≤ 9223372036854775807 := by unfold maxLen at h2; omega
    go_enter Tryz.func30, Tryz.ntmps30
    go_wp2_with fail
    go_loopw [5, 6] (fun x i wr => ∃ (n : Int) (j : Nat), x = .int .i64 n ∧ i = .int .i64 j ∧ j ≤ T.args.length ∧ Hid (Below w.heap.size w wr) ∧ Hid (Bx wr w.heap.size 25 #[.int .i64 T.kind, .int .i64 T.id, .slice A T.args.length k])) (fun _ i _ => T.args.length - (intOf i).toNat)
    case atStart => exact ⟨1, 0, rfl, rfl, Nat.zero_le _, Bl.alloc (Below.refl _ _) _, Bx.at0 _ _ _ rfl⟩
    case round =>
      obtain ⟨n, j, rfl, rfl, hj, HB, BF⟩ := hrel
      have cF := BF.out.cell 2
      by_cases hlt : j < T.args.length
      · have hji : (j : Int) < (T.args.length : Int) := by omega
        by_cases hnm : n ≤ m
        · obtain ⟨ad, vs, rfl, c0, c1, c2, hvs⟩ := (HA.out.mono monoTy (Bl.le HB.out)).ty_at j hlt
          have HVS := Lib.hid hvs
          have hsz : SizeOf.sizeOf (T.args.getD j default) ≤ N := by
            have := Ty.arg_size hlt
            have := HT.out
            omega
          have HC := Lib.hid (IH.out (T.args.getD j default) hsz)
          obtain ⟨U, hU⟩ : ∃ U, U = T.args.getD j default := ⟨_, rfl⟩
          rw [← hU] at c0 c1 hvs HVS HC
          obtain ⟨As, ks, rfl, _⟩ := hvs
          clear hsz hU
          go_wp2_with fail
          refine (HC.out _ _ wr HVS.out).mono ?_
          rintro e w1 ⟨⟨n1, rfl⟩, hb1⟩
          have BF1 := Lib.hid (BF.out.below hb1)
          have HB1 := Lib.hid (Bl.call HB.out hb1)
          clear hb1 c0 c1 c2 cF HC HVS
          go_wp2_with fail
          go_roundw
          case rel => exact ⟨_, j + 1, rfl, by go_num, by omega, HB1, BF1⟩
          case measure => simp [intOf]; omega
        · have hnm' : m < n := by omega
          clear hnm
          go_wp2_with fail
          go_ret
          exact ⟨⟨_, rfl⟩, HB.out⟩
      · obtain rfl : j = T.args.length := by omega
        go_wp2_with fail
        go_ret
        exact ⟨⟨_, rfl⟩, HB.out⟩
set_option maxHeartbeats 4000000 in
set_option maxRecDepth 100000 in
theorem small_any (vl : Value) (l : List Ty) (w : World) (hl : RSl KTy 3 w.cell? vl l) :
    Calls Tryz.prog 31 #[vl] w fun e w' => (∃ b : Bool, e = .returned (.bool b)) ∧ Below w.heap.size w w' := by
  obtain ⟨A, k, rfl, h1, h2, h3⟩ := hl
  have HA := Lib.hid h3
  clear h3
  have hxl : (l.length : Int) ≤ 9223372036854775807 := by unfold maxLen at h2; omega
  go_enter Tryz.func31, Tryz.ntmps31
  go_wp2_with fail
  go_loopw [3] (fun i wr => ∃ (j : Nat), i = .int .i64 j ∧ j ≤ l.length ∧ Hid (Below w.heap.size w wr)) (fun i _ => l.length - (intOf i).toNat)
  case atStart => exact ⟨0, rfl, Nat.zero_le _, Below.refl _ _⟩
  case round =>
    obtain ⟨j, rfl, hj, HB⟩ := hrel
    by_cases hlt : j < l.length
    · have hji : (j : Int) < (l.length : Int) := by omega
      obtain ⟨ad, vs, rfl, c0, c1, c2, hvs⟩ := (HA.out.mono monoTy (Bl.le HB.out)).ty_at j hlt
      obtain ⟨U, hU⟩ : ∃ U, U = l.getD j default := ⟨_, rfl⟩
      rw [← hU] at c0 c1 hvs
      have HVS := Lib.hid hvs
      obtain ⟨As, ks, rfl, _⟩ := hvs
      clear hU
      go_wp2_with fail
      refine (few_any _ U (Nat.le_refl _) _ _ wr HVS.out).mono ?_
      rintro e w1 ⟨⟨n1, rfl⟩, hb1⟩
      have HB1 := Lib.hid (Bl.call HB.out hb1)
      clear hb1 c0 c1 c2 HVS
      by_cases hn : (30 : Int) < n1
      · go_wp2_with fail
        go_ret
        exact ⟨⟨_, rfl⟩, HB1.out⟩
      · have hn' : n1 ≤ 30 := by omega
        clear hn
        go_wp2_with fail
        go_roundw
        case rel => exact ⟨j + 1, by go_num, by omega, HB1⟩
        case measure => simp [intOf]; omega
    · obtain rfl : j = l.length := by omega
      go_wp2_with fail
      go_ret
      exact ⟨⟨_, rfl⟩, HB.out⟩
end Go.Proofs.YtdkjkgokllmkmaaGreatDoor.Lv
