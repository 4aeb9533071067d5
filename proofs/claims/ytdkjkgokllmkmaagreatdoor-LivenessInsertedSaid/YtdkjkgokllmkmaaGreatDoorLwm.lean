/- Walks: Tiny. -/
import Derived.Test.YtdkjkgokllmkmaaGreatDoorLwl
namespace Go.Proofs.YtdkjkgokllmkmaaGreatDoor.Lv
open Go.RowKit
set_option linter.unusedVariables false
set_option linter.unusedSimpArgs false
/-- What Tiny says of a function. -/
structure Tny (F : Fn) : Prop where
  locals : F.locals.length ≤ 40
  blocks : F.blocks.length ≤ 40
  code : ∀ B, B ∈ F.blocks → B.code.length ≤ 20
  targets : ∀ B, B ∈ F.blocks → B.fin.targets.length ≤ 20
  args : ∀ B, B ∈ F.blocks → ∀ x, x ∈ B.code → x.args.length ≤ 20
theorem Tny.szd {F : Fn} (h : Tny F) : Szd F := ⟨h.locals, h.blocks, fun B hB => Nat.le_succ_of_le (h.code B hB), h.targets, h.args⟩
def TPost (F : Fn) (w : World) (e : Ending) (w' : World) : Prop := (∃ b : Bool, e = .returned (.bool b) ∧ (b = true → Tny F)) ∧ Below w.heap.size w w'
def TBlk (B : Blk) : Prop := B.code.length ≤ 20 ∧ B.fin.targets.length ≤ 20 ∧ ∀ x, x ∈ B.code → x.args.length ≤ 20
theorem TPost.no {F : Fn} {w w' : World} (hb : Below w.heap.size w w') : TPost F w (.returned (.bool false)) w' := ⟨⟨false, rfl, fun h => by cases h⟩, hb⟩
set_option maxHeartbeats 4000000 in
set_option maxRecDepth 100000 in
theorem tiny_any (v : Value) (F : Fn) (w : World) (hF : RFn w.cell? v F) : Calls Tryz.prog 10 #[v] w fun e w' => TPost F w e w' := by
  obtain ⟨mo, pa, ar, vb, vr, vl', vk, vt, Ab, At, nb, cb, nt, ct, rfl, rfl, rfl, m1, m2, ⟨Ar, kr, rfl, hr1, hr2, hr3⟩, ⟨Al, kl, rfl, g1, g2, hL⟩, ⟨Ak, kk, rfl, hk1, hk2, hk3⟩⟩ := id hF
  have HR := Lib.hid (fun c (hc : Le w.cell? c) => (show RSl KTy 3 w.cell? (.slice Ar F.result.args.length kr) F.result.args from ⟨_, _, rfl, hr1, hr2, hr3⟩).mono monoTy hc)
  have HLo := Lib.hid (fun c (hc : Le w.cell? c) => hL.mono monoTy hc)
  have HK := Lib.hid (fun c (hc : Le w.cell? c) => hk3.mono monoBlk hc)
  clear hF hr3 hL hk3
  have b1 : nb ≤ 9223372036854775807 := by unfold maxLen at m1; omega
  have b2 : nt ≤ 9223372036854775807 := by unfold maxLen at m2; omega
  have b3 : F.locals.length ≤ 9223372036854775807 := by unfold maxLen at g2; omega
  have b4 : F.blocks.length ≤ 9223372036854775807 := by unfold maxLen at hk2; omega
  by_cases c1 : F.locals.length ≤ 40
  case neg =>
    have c1' : (40 : Int) < (F.locals.length : Int) := by omega
    go_enter Tryz.func10, Tryz.ntmps10
    go_wp2_with fail
    go_ret
    exact TPost.no (Bl.alloc (Below.refl _ _) _)
  have c1' : (F.locals.length : Int) ≤ 40 := by omega
  by_cases c2 : F.blocks.length ≤ 40
  case neg =>
    have c2' : (40 : Int) < (F.blocks.length : Int) := by omega
    go_enter Tryz.func10, Tryz.ntmps10
    go_wp2_with fail
    go_ret
    exact TPost.no (Bl.alloc (Below.refl _ _) _)
  have c2' : (F.blocks.length : Int) ≤ 40 := by omega
  by_cases c3 : nb ≤ 10
  case neg =>
    have c3' : (10 : Int) < (nb : Int) := by omega
    go_enter Tryz.func10, Tryz.ntmps10
    go_wp2_with fail
    go_ret
    exact TPost.no (Bl.alloc (Below.refl _ _) _)
  have c3' : (nb : Int) ≤ 10 := by omega
  by_cases c4 : nt ≤ 20
  case neg =>
    have c4' : (20 : Int) < (nt : Int) := by omega
    go_enter Tryz.func10, Tryz.ntmps10
    go_wp2_with fail
    go_ret
    exact TPost.no (Bl.alloc (Below.refl _ _) _)
  have c4' : (nt : Int) ≤ 20 := by omega
  go_enter Tryz.func10, Tryz.ntmps10
  go_wp2_with fail
  refine (few_any _ F.result (Nat.le_refl _) _ _ _ (HR.out _ (Bl.le (Bl.alloc (Below.refl _ _) _)))).mono ?_
  rintro e w1 ⟨⟨n1, rfl⟩, hb1⟩
  have BF := Bx.below (w' := w1) (b := w.heap.size) (t := 29) (cs := #[.string F.name, .int .i64 mo, .int .i64 pa, .slice Ab nb cb, .int .i64 ar, .int .i64 F.result.kind, .int .i64 F.result.id, .slice Ar F.result.args.length kr, .slice Al F.locals.length kl, .slice Ak F.blocks.length kk, .slice At nt ct]) (Bx.at0 _ _ _ rfl) hb1
  have HB1 := Lib.hid (Bl.call (w := w) (Bl.alloc (Below.refl _ _) _) hb1)
  clear hb1 HR
  by_cases hn : (30 : Int) < n1
  case pos =>
    clear BF
    go_wp2_with fail
    go_ret
    exact TPost.no HB1.out
  have hn' : n1 ≤ 30 := by omega
  obtain ⟨FC, hFC⟩ : ∃ FC : Array Value, FC = #[.string F.name, .int .i64 mo, .int .i64 pa, .slice Ab nb cb, .int .i64 ar, .int .i64 F.result.kind, .int .i64 F.result.id, .slice Ar F.result.args.length kr, .slice Al F.locals.length kl, .slice Ak F.blocks.length kk, .slice At nt ct] := ⟨_, rfl⟩
  have hFC8 : FC[8]? = some (.slice Al F.locals.length kl) := by rw [hFC]; rfl
  have hFC9 : FC[9]? = some (.slice Ak F.blocks.length kk) := by rw [hFC]; rfl
  rw [← hFC] at BF
  have HBF := Lib.hid BF
  clear BF hFC hn
  go_wp2_with fail
  go_loopw [3] (fun i wr => ∃ (j : Nat), i = .int .i64 j ∧ j ≤ F.locals.length ∧ Hid (Below w.heap.size w wr) ∧ Hid (Bx wr w.heap.size 29 FC)) (fun i _ => F.locals.length - (intOf i).toNat)
  case atStart => exact ⟨0, rfl, Nat.zero_le _, HB1, HBF⟩
  case round =>
    clear HB1 HBF
    obtain ⟨j, rfl, hj, HB, BF⟩ := hrel
    have cF8 := (BF.out.cell 8).trans hFC8
    by_cases hlt : j < F.locals.length
    · have hji : (j : Int) < (F.locals.length : Int) := by omega
      obtain ⟨ad, vs, rfl, d0, d1, d2, hvs⟩ := (HLo.out _ (Bl.le HB.out)).ty_at j hlt
      obtain ⟨U, hU⟩ : ∃ U, U = F.locals.getD j default := ⟨_, rfl⟩
      rw [← hU] at d0 d1 hvs
      have HVS := Lib.hid hvs
      obtain ⟨As, ks, rfl, _⟩ := hvs
      clear hU
      go_wp2_with fail
      refine (few_any _ U (Nat.le_refl _) _ _ wr HVS.out).mono ?_
      rintro e w2 ⟨⟨n2, rfl⟩, hb2⟩
      have HB2 := Lib.hid (Bl.call HB.out hb2)
      have BF2 := Lib.hid (BF.out.below hb2)
      clear hb2 d0 d1 d2 HVS cF8
      by_cases hn2 : (30 : Int) < n2
      · go_wp2_with fail
        go_ret
        exact TPost.no HB2.out
      · have hn2' : n2 ≤ 30 := by omega
        clear hn2
        go_wp2_with fail
        go_roundw
        case rel => exact ⟨j + 1, by go_num, by omega, HB2, BF2⟩
        case measure => simp [intOf]; omega
    · obtain rfl : j = F.locals.length := by omega
      go_wp2_with fail
      clear cF8
      go_loopw [4] (fun i wr => ∃ (b : Nat), i = .int .i64 b ∧ b ≤ F.blocks.length ∧ Hid (Below w.heap.size w wr) ∧ Hid (Bx wr w.heap.size 29 FC) ∧ Hid (∀ a, a < b → TBlk (F.blk a))) (fun i _ => F.blocks.length - (intOf i).toNat)
      case atStart => exact ⟨0, rfl, Nat.zero_le _, HB, BF, fun a ha => by omega⟩
      case round =>
        clear HB BF
        obtain ⟨b, rfl, hb, HB, BF, HT⟩ := hrel
        have cF9 := (BF.out.cell 9).trans hFC9
        by_cases hlt2 : b < F.blocks.length
        · have hbi : (b : Int) < (F.blocks.length : Int) := by omega
          obtain ⟨adb, vc, vg, rfl, d0, d1, d2, d3, ⟨Ac, kc, rfl, hc1, hc2, hc3⟩, ⟨Ag, kg, rfl, hg1, hg2, hg3⟩⟩ := (HK.out _ (Bl.le HB.out)).blk_at b hlt2
          have hB : F.blk b = F.blocks.getD b default := rfl
          obtain ⟨B, hB2⟩ : ∃ B, B = F.blk b := ⟨_, rfl⟩
          rw [← hB] at d0 d1 d2 d3 hc1 hc3 hg1
          rw [← hB2] at d0 d1 d2 d3 hc1 hc3 hg1
          have HBB := Lib.hid hB2
          have HC := Lib.hid hc3
          have b5 : B.code.length ≤ 9223372036854775807 := by unfold maxLen at hc2; omega
          have b6 : B.fin.targets.length ≤ 9223372036854775807 := by unfold maxLen at hg2; omega
          clear hB hB2 hc3 hg3
          by_cases c5 : B.code.length ≤ 20
          case neg =>
            have c5' : (20 : Int) < (B.code.length : Int) := by omega
            go_wp2_with fail
            go_ret
            exact TPost.no HB.out
          have c5' : (B.code.length : Int) ≤ 20 := by omega
          by_cases c6 : B.fin.targets.length ≤ 20
          case neg =>
            have c6' : (20 : Int) < (B.fin.targets.length : Int) := by omega
            go_wp2_with fail
            go_ret
            exact TPost.no HB.out
          have c6' : (B.fin.targets.length : Int) ≤ 20 := by omega
          go_wp2_with fail
          clear cF9 d0 d1 d2 d3
          go_loopw [5] (fun i wr => ∃ (k : Nat), i = .int .i64 k ∧ k ≤ B.code.length ∧ Hid (Below w.heap.size w wr) ∧ Hid (Bx wr w.heap.size 29 FC) ∧ Hid (∀ c, c < k → (B.code.getD c default).args.length ≤ 20)) (fun i _ => B.code.length - (intOf i).toNat)
          case atStart => exact ⟨0, rfl, Nat.zero_le _, HB, BF, fun c hc => by omega⟩
          case round =>
            clear HB BF
            obtain ⟨k, rfl, hk, HB, BF, HA⟩ := hrel
            have cF9 := (BF.out.cell 9).trans hFC9
            obtain ⟨adb', vc', vg', e', d0, d1, d2, d3, ⟨Ac', kc', rfl, _, _, hc3⟩, ⟨Ag', kg', rfl, _, _, _⟩⟩ := (HK.out _ (Bl.le HB.out)).blk_at b hlt2
            simp only [Option.some.injEq] at e'
            subst e'
            have hB : F.blk b = F.blocks.getD b default := rfl
            rw [← hB, ← HBB.out] at d0 d1 d2 d3 hc3
            by_cases hlt3 : k < B.code.length
            · have hki : (k : Int) < (B.code.length : Int) := by omega
              obtain ⟨adi, va, vt, rfl, x0, x1, x2, x3, x4, x5, x6, ha, ht⟩ := hc3.ins_at k hlt3
              obtain ⟨X, hX⟩ : ∃ X, X = B.code.getD k default := ⟨_, rfl⟩
              rw [← hX] at x0 x1 x2 x3 x4 ha ht
              have HX := Lib.hid hX
              have HTY := Lib.hid ht
              obtain ⟨A1, k1, rfl, a1, a2, _⟩ := ha
              obtain ⟨A2, k2, rfl, _⟩ := ht
              have b7 : X.args.length ≤ 9223372036854775807 := by unfold maxLen at a2; omega
              clear hX hc3 hB
              by_cases c7 : X.args.length ≤ 20
              case neg =>
                have c7' : (20 : Int) < (X.args.length : Int) := by omega
                go_wp2_with fail
                go_ret
                exact TPost.no (by repeat (first | exact HB.out | apply Bl.alloc))
              have c7' : (X.args.length : Int) ≤ 20 := by omega
              go_wp2_with fail
              refine (small_any _ X.types _ (HTY.out.mono monoTy (Bl.le (Bl.alloc (Below.refl _ _) _)))).mono ?_
              rintro e w2 ⟨⟨bb, rfl⟩, hb2⟩
              have HB2 := Lib.hid (Bl.call (Bl.alloc HB.out _) hb2)
              have BF2 := Lib.hid ((BF.out.alloc _).below hb2)
              clear hb2 x0 x1 x2 x3 x4 x5 x6 d0 d1 d2 d3 cF9 HTY
              cases bb with
              | false =>
                go_wp2_with fail
                go_ret
                exact TPost.no HB2.out
              | true =>
                go_wp2_with fail
                go_roundw
                case rel =>
                  refine ⟨k + 1, by go_num, by omega, HB2, BF2, fun c hc => ?_⟩
                  by_cases e : c = k
                  · rw [e, ← HX.out]
                    exact c7
                  · exact HA.out c (by omega)
                case measure => simp [intOf]; omega
            · obtain rfl : k = B.code.length := by omega
              clear hc3 hB
              go_wp2_with fail
              go_roundw
              case rel =>
                refine ⟨b + 1, by go_num, by omega, HB, BF, fun a ha => ?_⟩
                by_cases e : a = b
                · rw [e, ← HBB.out]
                  refine ⟨c5, c6, fun x hx => ?_⟩
                  obtain ⟨c, hc, rfl⟩ := List.getElem_of_mem hx
                  have := HA.out c hc
                  simpa [List.getD_eq_getElem?_getD, hc] using this
                · exact HT.out a (by omega)
              case measure => simp [intOf]; omega
        · obtain rfl : b = F.blocks.length := by omega
          go_wp2_with fail
          go_ret
          refine ⟨⟨true, rfl, fun _ => ?_⟩, HB.out⟩
          have hblk : ∀ B, B ∈ F.blocks → TBlk B := fun B hB => by
            obtain ⟨a, ha, rfl⟩ := List.getElem_of_mem hB
            have := HT.out a ha
            unfold Fn.blk at this
            simpa [List.getD_eq_getElem?_getD, ha] using this
          exact ⟨c1, c2, fun B hB => (hblk B hB).1, fun B hB => (hblk B hB).2.1, fun B hB => (hblk B hB).2.2⟩
end Go.Proofs.YtdkjkgokllmkmaaGreatDoor.Lv
