/- Walks: Points of package graph; sized. -/
import Derived.Test.YtdkjkgokllmkmaaGreatDoorLwi
import Derived.Test.YtdkjkgokllmkmaaGreatDoorLvl
namespace Go.Proofs.YtdkjkgokllmkmaaGreatDoor.Lv
open Go.RowKit
set_option linter.unusedVariables false
set_option linter.unusedSimpArgs false
set_option maxHeartbeats 4000000 in
set_option maxRecDepth 100000 in
theorem gpoints_any (v : Value) (F : Fn) (w : World) (hF : RFn w.cell? v F) (hs : Szd F) :
    Calls Tryz.prog 29 #[v] w fun e w' => (∃ vp, e = .returned vp ∧ RSl KPt 2 w'.cell? vp (pts F)) ∧ Below w.heap.size w w' := by
  obtain ⟨mo, pa, ar, vb, vr, vl', vk, vt, Ab, At, nb, cb, nt, ct, rfl, rfl, rfl, m1, m2, ⟨Ar, kr, rfl, hr1, hr2, hr3⟩, ⟨Al, kl, rfl, h1, h2, hL⟩, ⟨Ak, kk, rfl, hk1, hk2, hk3⟩⟩ := id hF
  have hbl := hs.blocks
  have HK := Lib.hid (fun c (hc : Le w.cell? c) => hk3.mono monoBlk hc)
  have HS := Lib.hid hs
  clear hF hr3 hL hk3 hs
  obtain ⟨i0, hi, hz0, hz1, hz2⟩ := info_parts Tryz.info43
  go_enter Tryz.func29, Tryz.ntmps29
  go_wp2_with fail
  go_loopw [3, 10] (fun o i wr => ∃ (b : Nat), b ≤ F.blocks.length ∧ i = .int .i64 b ∧ Hid (wr.ownsRow w.heap.size 43 2 o (ptsU F b).length (ptc (ptsU F b))) ∧ Hid (Below w.heap.size w wr)) (fun _ i _ => F.blocks.length - (intOf i).toNat)
  case atStart => exact ⟨0, Nat.zero_le _, rfl, World.ownsRow_nil _ _ _ _, Bl.alloc (Below.refl _ _) _⟩
  case round =>
    obtain ⟨b, hb, rfl, HO, HB⟩ := hrel
    by_cases hlt : b < F.blocks.length
    · have hb1 : (b : Int) < (F.blocks.length : Int) := by omega
      have hbc := HS.out.code (F.blk b) (getD_mem hlt)
      have hpl := offs_le F HS.out b (by omega)
      obtain ⟨adb, vc, vg, rfl, c0, c1, c2, c3, ⟨Ac, kc, rfl, hc1, hc2, hc3⟩, ⟨Ag, kg, rfl, hg1, hg2, hg3⟩⟩ := (HK.out _ (Bl.le HB.out)).blk_at b hlt
      have HP : Hid (ptsU F (b + 1) = ptsU F b ++ (List.range ((F.blocks.getD b default).code.length + 1)).map fun i => (b, i)) := ptsU_succ F b
      unfold Fn.blk at hbc
      obtain ⟨B, hB⟩ : ∃ B, B = F.blocks.getD b default := ⟨_, rfl⟩
      rw [← hB] at c0 c1 c2 c3 hc1 hg1 hbc HP
      clear hc3 hg3 hB
      obtain ⟨P0, hP0⟩ : ∃ P0, P0 = ptsU F b := ⟨_, rfl⟩
      have hP0l : P0.length ≤ 22 * b := by rw [hP0, ptsU_len]; exact hpl
      rw [← hP0] at HO HP
      clear hP0 hpl
      go_wp2_with fail
      clear c0 c1 c2 c3
      obtain ⟨W1, hW1⟩ : ∃ W1, W1 = wr.alloc (.cells #[.slice Ac B.code.length kc, .int .i64 B.fin.kind, .int .i64 B.fin.a, .slice Ag B.fin.targets.length kg] 66) := ⟨_, rfl⟩
      rw [← hW1]
      have HO1 : Hid (W1.ownsRow w.heap.size 43 2 u3 P0.length (ptc P0)) := by rw [hW1]; exact HO.out.alloc _
      have HB1 : Hid (Below w.heap.size w W1) := by rw [hW1]; exact Bl.alloc HB.out _
      clear hW1 HO HB
      go_loopw [3, 19] (fun o k wi => ∃ (j : Nat), j ≤ B.code.length + 1 ∧ k = .int .i64 j ∧ Hid (wi.ownsRow w.heap.size 43 2 o (P0 ++ (List.range j).map fun i => (b, i)).length (ptc (P0 ++ (List.range j).map fun i => (b, i)))) ∧ Hid (Below w.heap.size w wi)) (fun _ k _ => B.code.length + 1 - (intOf k).toNat)
      case atStart => exact ⟨0, Nat.zero_le _, rfl, by simpa [Hid] using HO1, HB1⟩
      case round =>
        clear HO1 HB1
        obtain ⟨j, hj, rfl, HO, HB⟩ := hrel
        by_cases hlt2 : j ≤ B.code.length
        · have hj1 : (j : Int) ≤ (B.code.length : Int) := by omega
          have hj2 : (j : Int) < (B.code.length : Int) + 1 := by omega
          obtain ⟨P1, hP1⟩ : ∃ P1, P1 = P0 ++ (List.range j).map fun i => (b, i) := ⟨_, rfl⟩
          have hP1l : P1.length ≤ 22 * b + j := by rw [hP1, List.length_append, List.length_map, List.length_range]; omega
          have HPS : Hid (P0 ++ (List.range (j + 1)).map (fun i => (b, i)) = P1 ++ [(b, j)]) := by
            show _ = _
            rw [hP1, List.range_succ, List.map_append, ← List.append_assoc]
            rfl
          rw [← hP1] at HO
          clear hP1
          go_wp2_with (at_builtin; refine wpList_append_own_at _ rfl _ _ 36 rfl w.heap.size 43 i0 (.agg #[.int .i64 0, .int .i64 0]) 2 16 Tryz.underlying36 hi hz0 hz1 hz2 rfl (by decide) _ _ _ rfl (HO.out.alloc _) ⟨wr.heap.size, 0, none⟩ 1 1 [.int .i64 b, .int .i64 j] rfl rfl (World.news_of_block (cs := #[.int .i64 b, .int .i64 j]) (t := 43) (fr := (0, 0)) (heap_alloc_new wr _)) (by simp [Value.oneCell']) (by unfold maxLen; omega) (by omega) (by have := HB.out.size; simp; omega) ?_; intro v' w1 hown1 hgrow _ hat)
          have HB1 : Hid (Below w.heap.size w w1) := (Bl.alloc HB.out _).grown hgrow (by have := HB.out.size; simp; omega) (fun k hk => (HO.out.lt k hk).1)
          have HO1 : Hid (w1.ownsRow w.heap.size 43 2 v' (P1 ++ [(b, j)]).length (ptc (P1 ++ [(b, j)]))) := by
            show World.ownsRow _ _ _ _ _ _ _
            rw [ptc_snoc, List.length_append]
            exact hown1
          clear hown1 hgrow hat HO HB
          go_roundw
          case rel => exact ⟨j + 1, by omega, by go_num, by rw [HPS.out]; exact HO1, HB1⟩
          case measure => simp [intOf]; omega
        · obtain rfl : j = B.code.length + 1 := by omega
          rw [← HP.out] at HO
          clear hj
          simp only [Int.natCast_add, Int.cast_ofNat_Int]
          go_wp2
          go_roundw
          case rel => exact ⟨b + 1, by omega, by go_num, HO, HB⟩
          case measure => simp [intOf]; omega
    · obtain rfl : b = F.blocks.length := by omega
      go_wp2
      go_ret
      refine ⟨⟨_, rfl, ?_⟩, HB.out⟩
      rw [pts_eq, ← look_nil]
      exact RPts.of_own [] HO.out (by simp)
end Go.Proofs.YtdkjkgokllmkmaaGreatDoor.Lv
