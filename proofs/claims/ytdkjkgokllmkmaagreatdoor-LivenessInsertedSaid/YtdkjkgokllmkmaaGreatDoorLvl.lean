/- Walks: Points of the reference. -/
import Derived.Test.YtdkjkgokllmkmaaGreatDoorLvk
namespace Go.Proofs.YtdkjkgokllmkmaaGreatDoor.Lv
open Go.RowKit
set_option linter.unusedVariables false
set_option linter.unusedSimpArgs false
theorem Tryz.info43 : (Tryz.prog.info? 43).map (fun i => (i.zero, i.size, i.bytes)) = some (some (.agg #[.int .i64 0, .int .i64 0]), 2, 16) := by kernel_rfl
/-- The cells of points. -/
def ptc (l : List (Nat × Nat)) : List Value := l.flatMap fun p => [.int .i64 p.1, .int .i64 p.2]
theorem ptc_len (l : List (Nat × Nat)) : (ptc l).length = l.length * 2 := by
  induction l with
  | nil => rfl
  | cons p l ih => simp only [ptc, List.flatMap_cons, List.length_append, List.length_cons, List.length_nil] at ih ⊢; omega
theorem ptc_snoc (l : List (Nat × Nat)) (p : Nat × Nat) : ptc (l ++ [p]) = ptc l ++ [.int .i64 p.1, .int .i64 p.2] := by simp [ptc]
theorem ptc_at (l : List (Nat × Nat)) : ∀ j p, l[j]? = some p → ((ptc l).drop (j * 2)).take 2 = [.int .i64 p.1, .int .i64 p.2] := by
  induction l with
  | nil => intro j p h; simp at h
  | cons q l ih =>
    intro j p h
    cases j with
    | zero =>
      obtain rfl : q = p := by simpa using h
      simp [ptc]
    | succ j =>
      have := ih j p (by simpa using h)
      rw [show (j + 1) * 2 = j * 2 + 1 + 1 by omega]
      simpa [ptc] using this
theorem RPts.of_own {e base : Nat} {w : World} {v : Value} {xs : List (Nat × Nat)} (D : List Nat) (h : w.ownsRow base e 2 v xs.length (ptc xs)) (hd : ∀ k, v.ownBlock = some k → k ∉ D) : RSl KPt 2 (look D w) v xs :=
  RSl.of_own D h hd (fun j x hj => ptc_at _ _ _ hj)
def ptsU (F : Fn) (b : Nat) : List (Nat × Nat) := (List.range b).flatMap fun j => ptsB j (F.blk j)
theorem ptsU_succ (F : Fn) (b : Nat) : ptsU F (b + 1) = ptsU F b ++ ptsB b (F.blk b) := by simp [ptsU, List.range_succ]
theorem ptsU_len (F : Fn) : ∀ b, (ptsU F b).length = offs F b
  | 0 => rfl
  | b + 1 => by rw [ptsU_succ, List.length_append, ptsU_len F b, offs]; simp [ptsB]; omega
theorem pts_from (l : List Blk) : ∀ b, ptsFrom b l = (List.range l.length).flatMap fun j => ptsB (b + j) (l.getD j default) := by
  induction l with
  | nil => intro b; rfl
  | cons B l ih =>
    intro b
    rw [ptsFrom, ih, List.length_cons, List.range_succ_eq_map, List.flatMap_cons, List.flatMap_map]
    simp only [Nat.add_zero, List.getD_cons_zero, List.getD_cons_succ]
    congr 1
    refine congrArg (fun f => List.flatMap f (List.range l.length)) ?_
    funext j
    rw [show b + 1 + j = b + (j + 1) by omega]
theorem pts_eq (F : Fn) : pts F = ptsU F F.blocks.length := by
  unfold pts ptsU
  rw [pts_from]
  simp [Fn.blk]
set_option maxHeartbeats 4000000 in
set_option maxRecDepth 100000 in
theorem points_any (v : Value) (F : Fn) (w : World) (hF : RFn w.cell? v F) (hs : Szd F) :
    Calls Tryz.prog 17 #[v] w fun e w' => (∃ vp, e = .returned vp ∧ RSl KPt 2 w'.cell? vp (pts F)) ∧ Below w.heap.size w w' := by
  obtain ⟨mo, pa, ar, vb, vr, vl', vk, vt, Ab, At, nb, cb, nt, ct, rfl, rfl, rfl, m1, m2, ⟨Ar, kr, rfl, hr1, hr2, hr3⟩, ⟨Al, kl, rfl, h1, h2, hL⟩, ⟨Ak, kk, rfl, hk1, hk2, hk3⟩⟩ := id hF
  have hbl := hs.blocks
  have HK := Lib.hid (fun c (hc : Le w.cell? c) => hk3.mono monoBlk hc)
  have HS := Lib.hid hs
  clear hF hr3 hL hk3 hs
  obtain ⟨i0, hi, hz0, hz1, hz2⟩ := info_parts Tryz.info43
  go_enter Tryz.func17, Tryz.ntmps17
  go_wp2_with fail
  obtain ⟨FC, hFC⟩ : ∃ FC : Array Value, FC = #[.string F.name, .int .i64 mo, .int .i64 pa, .slice Ab nb cb, .int .i64 ar, .int .i64 F.result.kind, .int .i64 F.result.id, .slice Ar F.result.args.length kr, .slice Al F.locals.length kl, .slice Ak F.blocks.length kk, .slice At nt ct] := ⟨_, rfl⟩
  have hFC9 : FC[9]? = some (.slice Ak F.blocks.length kk) := by rw [hFC]; rfl
  rw [← hFC]
  clear hFC
  go_loopw [3, 4] (fun o i wr => ∃ (b : Nat), b ≤ F.blocks.length ∧ i = .int .i64 b ∧ Hid (wr.ownsRow w.heap.size 43 2 o (ptsU F b).length (ptc (ptsU F b))) ∧ Hid (Bx wr w.heap.size 29 FC) ∧ Hid (Below w.heap.size w wr)) (fun _ i _ => F.blocks.length - (intOf i).toNat)
  case atStart => exact ⟨0, Nat.zero_le _, rfl, World.ownsRow_nil _ _ _ _, Bx.at0 _ _ _ rfl, Bl.alloc (Below.refl _ _) _⟩
  case round =>
    obtain ⟨b, hb, rfl, HO, BF, HB⟩ := hrel
    have cF := (BF.out.cell 9).trans hFC9
    by_cases hlt : b < F.blocks.length
    · have hb1 : (b : Int) < (F.blocks.length : Int) := by omega
      have hbc := HS.out.code (F.blk b) (getD_mem hlt)
      have hpl := offs_le F HS.out b (by omega)
      obtain ⟨adb, vc, vg, eA, c0, c1, c2, c3, ⟨Ac, kc, rfl, hc1, hc2, hc3⟩, ⟨Ag, kg, rfl, hg1, hg2, hg3⟩⟩ := (HK.out _ (Le.refl _)).blk_at b hlt
      have HP : Hid (ptsU F (b + 1) = ptsU F b ++ (List.range ((F.blocks.getD b default).code.length + 1)).map fun i => (b, i)) := ptsU_succ F b
      unfold Fn.blk at hbc
      obtain ⟨B, hB⟩ : ∃ B, B = F.blocks.getD b default := ⟨_, rfl⟩
      rw [← hB] at c0 c1 c2 c3 hc1 hbc HP
      clear hc3 hg3 hg1 hB c1 c2 c3
      have HA := Lib.hid eA
      have HC0 := Lib.hid c0
      clear eA c0
      obtain ⟨P0, hP0⟩ : ∃ P0, P0 = ptsU F b := ⟨_, rfl⟩
      have hP0l : P0.length ≤ 22 * b := by rw [hP0, ptsU_len]; exact hpl
      rw [← hP0] at HO HP
      clear hP0 hpl
      obtain ⟨wo, rfl⟩ : ∃ wo, wo = wr := ⟨_, rfl⟩
      go_wp2_with fail
      go_loopw [3, 5] (fun o k wi => ∃ (j : Nat), j ≤ B.code.length + 1 ∧ k = .int .i64 j ∧ Hid (wi.ownsRow w.heap.size 43 2 o (P0 ++ (List.range j).map fun i => (b, i)).length (ptc (P0 ++ (List.range j).map fun i => (b, i)))) ∧ Hid (Bx wi w.heap.size 29 FC) ∧ Hid (Below w.heap.size w wi)) (fun _ k _ => B.code.length + 1 - (intOf k).toNat)
      case atStart => exact ⟨0, Nat.zero_le _, rfl, by simpa [Hid] using HO, BF, HB⟩
      case round =>
        clear HO BF HB cF
        obtain ⟨j, hj, rfl, HO, BF, HB⟩ := hrel
        have cF := (BF.out.cell 9).trans hFC9
        have d0 := Bl.le HB.out _ _ HC0.out
        obtain rfl := HA.out
        by_cases hlt2 : j ≤ B.code.length
        · have hj1 : (j : Int) ≤ (B.code.length : Int) := by omega
          obtain ⟨P1, hP1⟩ : ∃ P1, P1 = P0 ++ (List.range j).map fun i => (b, i) := ⟨_, rfl⟩
          have hP1l : P1.length ≤ 22 * b + j := by rw [hP1, List.length_append, List.length_map, List.length_range]; omega
          have HPS : Hid (P0 ++ (List.range (j + 1)).map (fun i => (b, i)) = P1 ++ [(b, j)]) := by
            show _ = _
            rw [hP1, List.range_succ, List.map_append, ← List.append_assoc]
            rfl
          rw [← hP1] at HO
          clear hP1
          go_wp2_with (at_builtin; refine wpList_append_own_at _ rfl _ _ 36 rfl w.heap.size 43 i0 (.agg #[.int .i64 0, .int .i64 0]) 2 16 Tryz.underlying36 hi hz0 hz1 hz2 rfl (by decide) _ _ _ rfl (HO.out.alloc _) ⟨wr.heap.size, 0, none⟩ 1 1 [.int .i64 b, .int .i64 j] rfl rfl (World.news_of_block (cs := #[.int .i64 b, .int .i64 j]) (t := 43) (fr := (0, 0)) (heap_alloc_new wr _)) (by simp [Value.oneCell']) (by unfold maxLen; omega) (by omega) (by have := HB.out.size; simp; omega) ?_; intro v' w1 hown1 hgrow _ hat)
          have BF1 : Hid (Bx w1 w.heap.size 29 FC) := (BF.out.alloc _).grown hgrow (BF.out.not_row HO.out (by decide))
          have HB1 : Hid (Below w.heap.size w w1) := (Bl.alloc HB.out _).grown hgrow (by have := HB.out.size; simp; omega) (fun k hk => (HO.out.lt k hk).1)
          have HO1 : Hid (w1.ownsRow w.heap.size 43 2 v' (P1 ++ [(b, j)]).length (ptc (P1 ++ [(b, j)]))) := by
            show World.ownsRow _ _ _ _ _ _ _
            rw [ptc_snoc, List.length_append]
            exact hown1
          clear hown1 hgrow hat HO BF HB
          go_roundw
          case rel => exact ⟨j + 1, by omega, by go_num, by rw [HPS.out]; exact HO1, BF1, HB1⟩
          case measure => simp [intOf]; omega
        · obtain rfl : j = B.code.length + 1 := by omega
          rw [← HP.out] at HO
          clear hj
          go_wp2
          go_roundw
          case rel => exact ⟨b + 1, by omega, by go_num, HO, BF, HB⟩
          case measure => simp [intOf]; omega
    · obtain rfl : b = F.blocks.length := by omega
      go_wp2
      go_ret
      refine ⟨⟨_, rfl, ?_⟩, HB.out⟩
      rw [pts_eq, ← look_nil]
      exact RPts.of_own [] HO.out (by simp)
end Go.Proofs.YtdkjkgokllmkmaaGreatDoor.Lv
