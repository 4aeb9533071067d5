/- Walks: sized. -/
import Derived.Test.YtdkjkgokllmkmaaGreatDoorLwj
namespace Go.Proofs.YtdkjkgokllmkmaaGreatDoor.Lv
open Go.RowKit
set_option linter.unusedVariables false
set_option linter.unusedSimpArgs false
set_option maxHeartbeats 4000000 in
set_option maxRecDepth 100000 in
theorem sized_true (v vl : Value) (F : Fn) (xss : List (List Bool)) (w : World) (hF : RFn w.cell? v F) (hs : Szd F) (hl : RSets w.cell? vl xss) (h1 : ∀ s, s ∈ xss → s.length = F.locals.length) (h2 : xss.length = (pts F).length) :
    Calls Tryz.prog 16 #[v, vl] w fun e w' => e = .returned (.bool true) ∧ Below w.heap.size w w' := by
  obtain ⟨mo, pa, ar, vb, vr, vl', vk, vt, Ab, At, nb, cb, nt, ct, rfl, rfl, rfl, m1, m2, ⟨Ar, kr, rfl, hr1, hr2, hr3⟩, ⟨Al, kl, rfl, g1, g2, hL⟩, ⟨Ak, kk, rfl, hk1, hk2, hk3⟩⟩ := id hF
  obtain ⟨X, kx, rfl, x1, x2, x3⟩ := hl
  have hbl := hs.blocks
  have hll := hs.locals
  have HF := Lib.hid (fun c (hc : Le w.cell? c) => hF.mono hc)
  have HX := Lib.hid x3
  have HS := Lib.hid hs
  have H1 := Lib.hid h1
  obtain ⟨np, hnp⟩ : ∃ np, np = (pts F).length := ⟨_, rfl⟩
  have HNP := Lib.hid hnp
  rw [← hnp] at h2
  obtain ⟨FC, hFC⟩ : ∃ FC : Array Value, FC = #[.string F.name, .int .i64 mo, .int .i64 pa, .slice Ab nb cb, .int .i64 ar, .int .i64 F.result.kind, .int .i64 F.result.id, .slice Ar F.result.args.length kr, .slice Al F.locals.length kl, .slice Ak F.blocks.length kk, .slice At nt ct] := ⟨_, rfl⟩
  have hFC8 : FC[8]? = some (.slice Al F.locals.length kl) := by rw [hFC]; rfl
  have HFC := Lib.hid hFC
  have H2 := Lib.hid h2
  have hpx : np ≤ 9223372036854775807 := by unfold maxLen at x2; omega
  rw [h2] at x1
  clear hF hr3 hL hk3 x3 hs h1 hnp h2 hFC
  rw [H2.out]
  go_enter Tryz.func16, Tryz.ntmps16
  go_wp2_with fail
  rw [← HFC.out]
  go_loopw [5] (fun i wr => ∃ (k : Nat), i = .int .i64 k ∧ k ≤ np ∧ Hid (Below w.heap.size w wr) ∧ Hid (Bx wr w.heap.size 29 FC)) (fun i _ => np - (intOf i).toNat)
  case atStart => exact ⟨0, rfl, Nat.zero_le _, Bl.alloc (Below.refl _ _) _, Bx.at0 _ _ _ rfl⟩
  case round =>
    obtain ⟨k, rfl, hk, HB, BF⟩ := hrel
    by_cases hlt : k < np
    · have hki : (k : Int) < (np : Int) := by omega
      have hkx : k < xss.length := by rw [H2.out]; exact hlt
      obtain ⟨ad, u, rfl, ca, hu⟩ := (HX.out.mono monoSets (Bl.le HB.out)).set_at k hkx
      obtain ⟨Au, ku, rfl, _⟩ := hu
      have hul := H1.out (xss.getD k []) (by rw [List.getD_eq_getElem?_getD, List.getElem?_eq_getElem hkx]; exact List.getElem_mem hkx)
      rw [hul] at ca
      have cF := (BF.out.cell 8).trans hFC8
      clear hkx hul
      go_wp2_with fail
      go_quiet (fail)
      go_wp2_with fail
      go_roundw
      case rel => exact ⟨k + 1, by go_num, by omega, (by first | exact HB | exact Bl.drew HB.out | exact Bl.drewN HB.out _), (by first | exact BF | exact BF.out.drew)⟩
      case measure => simp [intOf]; omega
    · obtain rfl : k = np := by omega
      have hff := BF.out
      rw [HFC.out] at hff
      have cF := hff.cell
      have HFF := Lib.hid hff
      clear hff
      go_wp2_with fail
      refine (points_any _ F _ (HF.out _ (Bl.le HB.out)) HS.out).mono ?_
      rintro e w1 ⟨⟨vp, rfl, hp⟩, hb1⟩
      obtain ⟨Ap, kp, rfl, _⟩ := hp
      rw [← HNP.out]
      have HB1 := Lib.hid (Bl.call HB.out hb1)
      clear hb1
      go_wp2_with fail
      go_ret
      exact ⟨rfl, HB1.out⟩
end Go.Proofs.YtdkjkgokllmkmaaGreatDoor.Lv
