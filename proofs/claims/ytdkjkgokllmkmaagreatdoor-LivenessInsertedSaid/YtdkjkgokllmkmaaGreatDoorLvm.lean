/- Walks: Next of the reference. -/
import Derived.Test.YtdkjkgokllmkmaaGreatDoorLvl
namespace Go.Proofs.YtdkjkgokllmkmaaGreatDoor.Lv
open Go.RowKit
set_option linter.unusedVariables false
set_option linter.unusedSimpArgs false
theorem tgts_snoc (F : Fn) (l : List Int) (x : Int) : tgts F (l ++ [x]) = tgts F l ++ (if 0 ≤ x ∧ x < F.blocks.length then [(x.toNat, 0)] else []) := by
  unfold tgts
  rw [List.filterMap_append]
  congr 1
  by_cases h : 0 ≤ x ∧ x < F.blocks.length <;> simp [h]
theorem tgts_len (F : Fn) (l : List Int) : (tgts F l).length ≤ l.length := List.length_filterMap_le _ _
theorem own_pt1 {w : World} {b : Nat} {x y : Nat} (h : Bx w b 43 #[.int .i64 x, .int .i64 y]) : w.ownsRow 0 43 2 (.slice (some ⟨b, 0, none⟩) 1 1) 1 (ptc [(x, y)]) :=
  ⟨by simp [ptc], .inr ⟨b, 1, _, rfl, Nat.zero_le _, h, Nat.le_refl _, by simp [maxLen], by simp, by simp [ptc]⟩⟩
set_option maxHeartbeats 4000000 in
set_option maxRecDepth 100000 in
theorem next_any (v : Value) (F : Fn) (b i : Nat) (w : World) (hF : RFn w.cell? v F) (hs : Szd F) (hb : b < F.blocks.length) (hi : i ≤ (F.blk b).code.length) :
    Calls Tryz.prog 19 #[v, .agg #[.int .i64 b, .int .i64 i]] w fun e w' => (∃ vp, e = .returned vp ∧ RSl KPt 2 w'.cell? vp (next F (b, i))) ∧ Below w.heap.size w w' := by
  obtain ⟨mo, pa, ar, vb, vr, vl', vk, vt, Ab, At, nb, cb, nt, ct, rfl, rfl, rfl, m1, m2, ⟨Ar, kr, rfl, hr1, hr2, hr3⟩, ⟨Al, kl, rfl, h1, h2, hL⟩, ⟨Ak, kk, rfl, hk1, hk2, hk3⟩⟩ := id hF
  have hbl := hs.blocks
  have hbc := hs.code (F.blk b) (getD_mem hb)
  have hbt := hs.targets (F.blk b) (getD_mem hb)
  have HF := Lib.hid (fun c (hc : Le w.cell? c) => hF.mono hc)
  obtain ⟨adb, vc, vg, rfl, c0, c1, c2, c3, ⟨Ac, kc, rfl, hc1, hc2, hc3⟩, ⟨Ag, kg, rfl, hg1, hg2, hg3⟩⟩ := hk3.blk_at b hb
  have HN : Hid (next F (b, i) = if i < (F.blk b).code.length then [(b, i + 1)] else tgts F (F.blk b).fin.targets) := rfl
  have HI := Lib.hid hi
  have hB : F.blk b = F.blocks.getD b default := rfl
  obtain ⟨B, hB2⟩ : ∃ B, B = F.blk b := ⟨_, rfl⟩
  rw [← hB] at c0 c1 c2 c3 hc1 hg1 hg3
  rw [← hB2] at c0 c1 c2 c3 hc1 hbc hbt hi HN hg1 hg3
  have HG := Lib.hid hg3
  have HBB := Lib.hid hB2
  clear hF hr3 hL hk3 hs hc3 hg3 hB hB2 hi
  obtain ⟨i0, hi0, hz0, hz1, hz2⟩ := info_parts Tryz.info43
  obtain ⟨FC, hFC⟩ : ∃ FC : Array Value, FC = #[.string F.name, .int .i64 mo, .int .i64 pa, .slice Ab nb cb, .int .i64 ar, .int .i64 F.result.kind, .int .i64 F.result.id, .slice Ar F.result.args.length kr, .slice Al F.locals.length kl, .slice (some adb) F.blocks.length kk, .slice At nt ct] := ⟨_, rfl⟩
  have hFC9 : FC[9]? = some (.slice (some adb) F.blocks.length kk) := by rw [hFC]; rfl
  have HFC := Lib.hid hFC
  clear hFC
  go_enter Tryz.func19, Tryz.ntmps19
  go_wp2_with fail
  refine (is_any _ F b i _ (HF.out _ (Bl.le (by repeat (first | apply Bl.alloc | exact Below.refl _ _)))) hb HI.out ⟨by omega, by have := HBB.out; rw [← this]; omega⟩).mono ?_
  rintro e w1 ⟨rfl, hb1⟩
  have bF := Bx.below (w' := w1) (b := w.heap.size) (t := 29) (cs := FC) (by rw [HFC.out]; repeat (first | (refine Bx.at0 _ _ _ ?_; (simp; done)) | apply Bx.alloc)) hb1
  have bX := Bx.below (w' := w1) (b := w.heap.size + 1) (t := 43) (cs := #[.int .i64 b, .int .i64 i]) (by repeat (first | (refine Bx.at0 _ _ _ ?_; (simp; done)) | apply Bx.alloc)) hb1
  have HB1 := Lib.hid (Bl.call (w := w) (by repeat (first | apply Bl.alloc | exact Below.refl _ _)) hb1)
  clear hb1
  have d0 := Bl.le HB1.out _ _ c0
  have d1 := Bl.le HB1.out _ _ c1
  have d2 := Bl.le HB1.out _ _ c2
  have d3 := Bl.le HB1.out _ _ c3
  clear c0 c1 c2 c3
  have cF := (bF.cell 9).trans hFC9
  have cX := bX.cell
  have lF := bF.lt
  have lX := bX.lt
  have hb0 : (b : Int) < (F.blocks.length : Int) := by omega
  go_upto_region 4 with fail
  obtain ⟨NB, hNB⟩ : ∃ NB, NB = w1.heap.size := ⟨_, rfl⟩
  rw [← hNB]
  generalize hW1 : World.alloc w1 _ = W1
  have bF1 : Bx W1 w.heap.size 29 FC := by rw [← hW1]; exact bF.alloc _
  have bX1 : Bx W1 (w.heap.size + 1) 43 #[.int .i64 b, .int .i64 i] := by rw [← hW1]; exact bX.alloc _
  have bB1 : Bx W1 NB 66 #[.slice Ac B.code.length kc, .int .i64 B.fin.kind, .int .i64 B.fin.a, .slice Ag B.fin.targets.length kg] := by rw [← hW1]; exact Bx.at0 _ _ _ hNB
  have HBW : Hid (Below w.heap.size w W1) := by rw [← hW1]; exact Bl.alloc HB1.out _
  have HNB : Hid (w.heap.size < NB) := by rw [hNB]; exact lF
  clear hW1 hNB cF cX bF bX lF lX HB1 d0 d1 d2 d3
  have cF := (bF1.cell 9).trans hFC9
  have cX := bX1.cell
  have cB := bB1.cell
  have hi1 : (0 : Int) ≤ (i : Int) := by omega
  by_cases hlt : i < B.code.length
  · have hi2 : (i : Int) < (B.code.length : Int) := by omega
    go_wp2
    go_ret
    have hn : next F (b, i) = [(b, i + 1)] := by rw [HN.out, if_pos hlt]
    rw [hn]
    refine ⟨⟨_, rfl, ?_⟩, Bl.alloc HBW.out _⟩
    rw [← look_nil]
    exact RPts.of_own (e := 43) (xs := [(b, i + 1)]) [] (own_pt1 (by simpa using Bx.new W1 43 #[.int .i64 b, .int .i64 (i + 1 : Nat)])) (by simp)
  · have hi2 : (B.code.length : Int) ≤ (i : Int) := by omega
    have HT : Hid (next F (b, i) = tgts F B.fin.targets) := by
      show next F (b, i) = _
      rw [HN.out, if_neg hlt]
    clear HN
    go_wp2_with fail
    go_loopw [6, 7] (fun o k wr => ∃ (j : Nat), j ≤ B.fin.targets.length ∧ k = .int .i64 j ∧ Hid (wr.ownsRow w.heap.size 43 2 o (tgts F (B.fin.targets.take j)).length (ptc (tgts F (B.fin.targets.take j)))) ∧ Hid (Bx wr w.heap.size 29 FC) ∧
      Hid (Bx wr NB 66 #[.slice Ac B.code.length kc, .int .i64 B.fin.kind, .int .i64 B.fin.a, .slice Ag B.fin.targets.length kg]) ∧ Hid (Below w.heap.size w wr)) (fun _ k _ => B.fin.targets.length - (intOf k).toNat)
    case atStart => exact ⟨0, Nat.zero_le _, rfl, World.ownsRow_nil _ _ _ _, bF1, bB1, HBW⟩
    case round =>
      clear cF cX cB bF1 bX1 bB1 HBW
      obtain ⟨j, hj, rfl, HO, BF, BB, HB⟩ := hrel
      have cF := (BF.out.cell 9).trans hFC9
      have cB := BB.out.cell
      by_cases hltj : j < B.fin.targets.length
      · obtain ⟨ad, rfl, c⟩ := (HG.out.mono monoInt (Bl.le HB.out)).int_at j hltj
        obtain ⟨x, hx⟩ : ∃ x, x = B.fin.targets.getD j 0 := ⟨_, rfl⟩
        rw [← hx] at c
        have HS : Hid (tgts F (B.fin.targets.take (j + 1)) = tgts F (B.fin.targets.take j) ++ (if 0 ≤ x ∧ x < F.blocks.length then [(x.toNat, 0)] else [])) := by
          show _ = _
          rw [take_snoc _ _ 0 hltj, tgts_snoc, hx]
        clear hx
        have hj1 : (j : Int) < (B.fin.targets.length : Int) := by omega
        have hpl : (tgts F (B.fin.targets.take j)).length ≤ 20 := Nat.le_trans (tgts_len _ _) (by rw [List.length_take]; omega)
        by_cases hin : 0 ≤ x ∧ x < F.blocks.length
        · obtain ⟨m, rfl⟩ := Int.eq_ofNat_of_zero_le hin.1
          go_wp2_with fail
          go_quiet ((go_at_call 40; exact Calls.quiet_of_same (in_yes _ _ _ hin)))
          generalize hwd : World.drewN wr _ = wd
          have HOd : Hid (wd.ownsRow w.heap.size 43 2 u6 (tgts F (B.fin.targets.take j)).length (ptc (tgts F (B.fin.targets.take j)))) := by rw [← hwd]; exact HO.out
          have BFd : Hid (Bx wd w.heap.size 29 FC) := by rw [← hwd]; exact BF.out
          have BBd : Hid (Bx wd NB 66 #[.slice Ac B.code.length kc, .int .i64 B.fin.kind, .int .i64 B.fin.a, .slice (some ad) B.fin.targets.length kg]) := by rw [← hwd]; exact BB.out
          have HBd : Hid (Below w.heap.size w wd) := by rw [← hwd]; exact Bl.drewN HB.out _
          have cd : wd.cell? (ad.add j) = some (.int .i64 (m : Int)) := by rw [← hwd]; exact c
          have cB := BBd.out.cell
          have lB := BBd.out.lt
          have lC := World.block_lt_of_cell? _ _ cd
          clear hwd HO BF BB HB cF c
          go_wp2_with (at_builtin; refine wpList_append_own_at _ rfl _ _ 36 rfl w.heap.size 43 i0 (.agg #[.int .i64 0, .int .i64 0]) 2 16 Tryz.underlying36 hi0 hz0 hz1 hz2 rfl (by decide) _ _ _ rfl (HOd.out.alloc _) ⟨wd.heap.size, 0, none⟩ 1 1 [.int .i64 (m : Int), .int .i64 0] rfl rfl (World.news_of_block (cs := #[.int .i64 (m : Int), .int .i64 0]) (t := 43) (fr := (0, 0)) (heap_alloc_new wd _)) (by simp [Value.oneCell']) (by unfold maxLen; omega) (by omega) (by have := HBd.out.size; simp; omega) ?_; intro v' w2 hown1 hgrow _ hat)
          have BF1 : Hid (Bx w2 w.heap.size 29 FC) := (BFd.out.alloc _).grown hgrow (BFd.out.not_row HOd.out (by decide))
          have BB1 : Hid (Bx w2 NB 66 _) := (BBd.out.alloc _).grown hgrow (BBd.out.not_row HOd.out (by decide))
          have HB1 : Hid (Below w.heap.size w w2) := (Bl.alloc HBd.out _).grown hgrow (by have := HBd.out.size; simp; omega) (fun k hk => (HOd.out.lt k hk).1)
          have HO1 : Hid (w2.ownsRow w.heap.size 43 2 v' (tgts F (B.fin.targets.take (j + 1))).length (ptc (tgts F (B.fin.targets.take (j + 1))))) := by
            show World.ownsRow _ _ _ _ _ _ _
            rw [HS.out, if_pos hin, Int.toNat_natCast, ptc_snoc, List.length_append]
            exact hown1
          clear hown1 hgrow hat HOd BFd BBd HBd cB lB cd lC
          go_roundw
          case rel => exact ⟨j + 1, by omega, by go_num, HO1, BF1, BB1, HB1⟩
          case measure => simp [intOf]; omega
        · go_wp2_with fail
          go_quiet ((go_at_call 40; exact Calls.quiet_of_same (in_no _ _ _ hin)))
          go_wp2_with fail
          rw [if_neg hin, List.append_nil] at HS
          go_roundw
          case rel => exact ⟨j + 1, by omega, by go_num, by rw [HS.out]; exact HO.out, BF.out, BB.out, Bl.drewN HB.out _⟩
          case measure => simp [intOf]; omega
      · obtain rfl : j = B.fin.targets.length := by omega
        go_wp2
        go_ret
        rw [HT.out]
        refine ⟨⟨_, rfl, ?_⟩, HB.out⟩
        have := HO.out
        rw [List.take_length] at this
        rw [← look_nil]
        exact RPts.of_own [] this (by simp)
end Go.Proofs.YtdkjkgokllmkmaaGreatDoor.Lv
