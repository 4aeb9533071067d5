/- LivenessMatchesReference: the walk. -/
import Derived.Test.YtdkjkgokllmkmaaGreatDoorLxw
import Derived.Test.YtdkjkgokllmkmaaGreatDoorLxq
namespace Go.Proofs.YtdkjkgokllmkmaaGreatDoor.Lv
open Go.RowKit
set_option linter.unusedVariables false
set_option linter.unusedSimpArgs false
set_option maxHeartbeats 16000000 in
set_option maxRecDepth 100000 in
theorem matches_any (v : Value) (F : Fn) (w : World) (hF : RFn w.cell? v F) : Calls Tryz.prog 3 #[v] w fun e w' => e = .returned (.bool true) ∧ Below w.heap.size w w' := by
  obtain ⟨mo, pa, ar, vb, vr, vl', vk, vt, Ab, At, nb, cb, nt, ct, rfl, rfl, rfl, m1, m2, ⟨Ar, kr, rfl, hr1, hr2, hr3⟩, ⟨Al, kl, rfl, g1, g2, hL⟩, ⟨Ak, kk, rfl, hk1, hk2, hk3⟩⟩ := id hF
  have HF := Lib.hid (fun c (hc : Le w.cell? c) => hF.mono hc)
  clear hF hr3 hL hk3
  go_enter Tryz.func3, Tryz.ntmps3
  go_wp2_with fail
  obtain ⟨FC, hFC⟩ : ∃ FC : Array Value, FC = #[.string F.name, .int .i64 mo, .int .i64 pa, .slice Ab nb cb, .int .i64 ar, .int .i64 F.result.kind, .int .i64 F.result.id, .slice Ar F.result.args.length kr, .slice Al F.locals.length kl, .slice Ak F.blocks.length kk, .slice At nt ct] := ⟨_, rfl⟩
  obtain ⟨bF, hbF⟩ : ∃ bF, bF = w.heap.size := ⟨_, rfl⟩
  rw [← hbF]
  generalize hW : World.alloc _ _ = W
  have HB0 : Hid (Below w.heap.size w W) := by rw [← hW]; exact Bl.alloc (Below.refl _ _) _
  have HBF0 : Hid (Bx W bF 29 FC) := by
    show Bx _ _ _ _
    rw [← hW, hFC]
    exact Bx.at0 _ _ _ hbF
  have HFC := Lib.hid hFC
  clear hW hbF hFC
  refine (head_any W).mono ?_
  rintro e w1 ⟨rfl, hb1⟩
  have HB1 := Lib.hid (Bl.call HB0.out hb1)
  have HBF1 := Lib.hid (HBF0.out.below hb1)
  clear hb1 HB0 HBF0
  have cF := HBF1.out.cell
  rw [HFC.out] at cF
  go_wp2_with fail
  refine (tiny_any _ F w1 (HF.out _ (Bl.le HB1.out))).mono ?_
  rintro e w2 ⟨⟨bt, rfl, hty⟩, hb2⟩
  have HB2 := Lib.hid (Bl.call HB1.out hb2)
  have HBF2 := Lib.hid (HBF1.out.below hb2)
  clear hb2 HB1 HBF1 cF
  cases bt with
  | false =>
    go_wp2_with fail
    go_ret
    exact ⟨rfl, HB2.out⟩
  | true =>
    have HS := Lib.hid (hty rfl).szd
    clear hty
    have hcF := HBF2.out.cell
    rw [HFC.out] at hcF
    go_upto_region 4 with fail
    refine region_anyS (S := (fun w'' : World => (∀ j, w''.cell? ⟨bF, j, none⟩ = (#[.string F.name, .int .i64 mo, .int .i64 pa, .slice Ab nb cb, .int .i64 ar, .int .i64 F.result.kind, .int .i64 F.result.id, .slice Ar F.result.args.length kr, .slice Al F.locals.length kl, .slice Ak F.blocks.length kk, .slice At nt ct] : Array Value)[j]?))) ?_
    have hSd : (fun w'' : World => (∀ j, w''.cell? ⟨bF, j, none⟩ = (#[.string F.name, .int .i64 mo, .int .i64 pa, .slice Ab nb cb, .int .i64 ar, .int .i64 F.result.kind, .int .i64 F.result.id, .slice Ar F.result.args.length kr, .slice Al F.locals.length kl, .slice Ak F.blocks.length kk, .slice At nt ct] : Array Value)[j]?)) w2.drew := hcF
    (refine AnyS.takeD (i := 0) 9 (v := ?_) (by kernel_rfl) rfl rfl (by kernel_rfl) (by kernel_rfl) (by kernel_rfl) (fun _ _ _ h => h) (by assumption) ⟨⟨by kernel_rfl, ?_⟩, fun _ => rfl⟩ ?_; rotate_left; (rintro w' hs1; go_simp; rfl))
    (refine AnyS.takeD (i := 1) 10 (v := ?_) (by kernel_rfl) rfl rfl (by kernel_rfl) (by kernel_rfl) (by kernel_rfl) (fun _ _ _ h => h) (by assumption) ⟨⟨by kernel_rfl, ?_⟩, fun _ => rfl⟩ ?_; rotate_left; (rintro w' hs1; go_simp; rfl))
    (refine AnyS.takeD (i := 2) 11 (v := ?_) (by kernel_rfl) rfl rfl (by kernel_rfl) (by kernel_rfl) (by kernel_rfl) (fun _ _ _ h => h) (by assumption) ⟨⟨by kernel_rfl, ?_⟩, fun _ => rfl⟩ ?_; rotate_left; (rintro w' hs1; go_simp; rfl))
    (refine AnyS.takeD (i := 4) 13 (v := ?_) (by kernel_rfl) rfl rfl (by kernel_rfl) (by kernel_rfl) (by kernel_rfl) (fun _ _ _ h => h) (by assumption) ⟨⟨by kernel_rfl, ?_⟩, fun _ => rfl⟩ ?_; rotate_left; (rintro w' hs1; go_simp; rfl))
    refine AnyS.enterD (i := 3) 12 (R := fun x w'' => RSets w''.cell? x (before F) ∧ Below w2.drew.heap.size w2.drew w'') (by kernel_rfl) rfl rfl (by kernel_rfl) (fun c hc => by cases hc) (by go_simp) ((before_any _ F w2.drew (HF.out _ (Bl.le (Bl.drew HB2.out))) HS.out).mono ?_) ?_
    · rintro e w' ⟨⟨vp, rfl, hv⟩, hb⟩
      exact ⟨_, rfl, hv, hb⟩
    rintro v3 w3 ⟨hv3, hb3⟩
    have hb3' : Below w2.heap.size w2 w3 := Bl.call (Bl.drew (Below.refl _ _)) hb3
    have hS3 : (fun w'' : World => (∀ j, w''.cell? ⟨bF, j, none⟩ = (#[.string F.name, .int .i64 mo, .int .i64 pa, .slice Ab nb cb, .int .i64 ar, .int .i64 F.result.kind, .int .i64 F.result.id, .slice Ar F.result.args.length kr, .slice Al F.locals.length kl, .slice Ak F.blocks.length kk, .slice At nt ct] : Array Value)[j]?)) w3 := by
      have h := (HBF2.out.below hb3').cell
      rwa [HFC.out] at h
    refine ⟨hS3, ?_⟩
    have HB3 := Lib.hid (Bl.call HB2.out hb3')
    have HBF3 := Lib.hid (HBF2.out.below hb3')
    have HV3 := Lib.hid hv3
    clear hb3 hb3' hSd hcF HB2 HBF2 hv3
    refine AnyS.enterD (i := 5) 14 (R := fun x w'' => RSets w''.cell? x (before F) ∧ Below w3.heap.size w3 w'') (by kernel_rfl) rfl rfl (by kernel_rfl) (fun c hc => by cases hc) (by go_simp) ((rbefore_any _ F w3 (HF.out _ (Bl.le HB3.out)) HS.out).mono ?_) ?_
    · rintro e w' ⟨⟨vp, rfl, hv⟩, hb⟩
      exact ⟨_, rfl, hv, hb⟩
    rintro v4 w4 ⟨hv4, hb4⟩
    have hS4 : (fun w'' : World => (∀ j, w''.cell? ⟨bF, j, none⟩ = (#[.string F.name, .int .i64 mo, .int .i64 pa, .slice Ab nb cb, .int .i64 ar, .int .i64 F.result.kind, .int .i64 F.result.id, .slice Ar F.result.args.length kr, .slice Al F.locals.length kl, .slice Ak F.blocks.length kk, .slice At nt ct] : Array Value)[j]?)) w4 := by
      have h := (HBF3.out.below hb4).cell
      rwa [HFC.out] at h
    refine ⟨hS4, ?_⟩
    have HB4 := Lib.hid (Bl.call HB3.out hb4)
    have HBF4 := Lib.hid (HBF3.out.below hb4)
    have HV3' := Lib.hid (HV3.out.mono monoSets (Bl.le hb4))
    have HV4 := Lib.hid hv4
    clear hb4 hS3 HB3 HBF3 HV3 hv4
    refine AnyS.enterD (i := 6) 15 (R := fun x w'' => x = .bool true ∧ Below w4.heap.size w4 w'') (by kernel_rfl) rfl rfl (by kernel_rfl) (fun c hc => by cases hc) (by go_simp) ((sameall_any v3 v4 (before F) (before F) w4 HV3'.out HV4.out).mono ?_) ?_
    · rintro e w' ⟨rfl, hb⟩
      exact ⟨_, rfl, by rw [decide_eq_true rfl], hb⟩
    rintro _ w5 ⟨rfl, hb5⟩
    have hS5 : (fun w'' : World => (∀ j, w''.cell? ⟨bF, j, none⟩ = (#[.string F.name, .int .i64 mo, .int .i64 pa, .slice Ab nb cb, .int .i64 ar, .int .i64 F.result.kind, .int .i64 F.result.id, .slice Ar F.result.args.length kr, .slice Al F.locals.length kl, .slice Ak F.blocks.length kk, .slice At nt ct] : Array Value)[j]?)) w5 := by
      have h := (HBF4.out.below hb5).cell
      rwa [HFC.out] at h
    refine ⟨hS5, ?_⟩
    have HB5 := Lib.hid (Bl.call HB4.out hb5)
    have HBF5 := Lib.hid (HBF4.out.below hb5)
    clear hb5 hS4 HB4 HBF4 HV3' HV4
    refine AnyS.act (by simp only [Act.put, List.setIfInBounds_toArray, List.set_cons_succ, List.set_cons_zero]; rfl) ?_
    (refine AnyS.takeD (i := 7) 16 (v := ?_) (by kernel_rfl) rfl rfl (by kernel_rfl) (by kernel_rfl) (by kernel_rfl) (fun _ _ _ h => h) (by assumption) ⟨⟨by kernel_rfl, ?_⟩, fun _ => rfl⟩ ?_; rotate_left; (rintro w' hs1; go_simp; rfl))
    (refine AnyS.takeD (i := 8) 17 (v := ?_) (by kernel_rfl) rfl rfl (by kernel_rfl) (by kernel_rfl) (by kernel_rfl) (fun _ _ _ h => h) (by assumption) ⟨⟨by kernel_rfl, ?_⟩, fun _ => rfl⟩ ?_; rotate_left; (rintro w' hs1; go_simp; rfl))
    (refine AnyS.takeD (i := 9) 18 (v := ?_) (by kernel_rfl) rfl rfl (by kernel_rfl) (by kernel_rfl) (by kernel_rfl) (fun _ _ _ h => h) (by assumption) ⟨⟨by kernel_rfl, ?_⟩, fun _ => rfl⟩ ?_; rotate_left; (rintro w' hs1; go_simp; rfl))
    (refine AnyS.takeD (i := 11) 20 (v := ?_) (by kernel_rfl) rfl rfl (by kernel_rfl) (by kernel_rfl) (by kernel_rfl) (fun _ _ _ h => h) (by assumption) ⟨⟨by kernel_rfl, ?_⟩, fun _ => rfl⟩ ?_; rotate_left; (rintro w' hs1; go_simp; rfl))
    refine AnyS.enterD (i := 10) 19 (R := fun x w'' => RSets w''.cell? x (after F) ∧ Below w5.heap.size w5 w'') (by kernel_rfl) rfl rfl (by kernel_rfl) (fun c hc => by cases hc) (by go_simp) ((after_any _ F w5 (HF.out _ (Bl.le HB5.out)) HS.out).mono ?_) ?_
    · rintro e w' ⟨⟨vp, rfl, hv⟩, hb⟩
      exact ⟨_, rfl, hv, hb⟩
    rintro v6 w6 ⟨hv6, hb6⟩
    have hS6 : (fun w'' : World => (∀ j, w''.cell? ⟨bF, j, none⟩ = (#[.string F.name, .int .i64 mo, .int .i64 pa, .slice Ab nb cb, .int .i64 ar, .int .i64 F.result.kind, .int .i64 F.result.id, .slice Ar F.result.args.length kr, .slice Al F.locals.length kl, .slice Ak F.blocks.length kk, .slice At nt ct] : Array Value)[j]?)) w6 := by
      have h := (HBF5.out.below hb6).cell
      rwa [HFC.out] at h
    refine ⟨hS6, ?_⟩
    have HB6 := Lib.hid (Bl.call HB5.out hb6)
    have HBF6 := Lib.hid (HBF5.out.below hb6)
    have HV6 := Lib.hid hv6
    clear hb6 hS5 HB5 HBF5 hv6
    refine AnyS.enterD (i := 12) 21 (R := fun x w'' => RSets w''.cell? x (after F) ∧ Below w6.heap.size w6 w'') (by kernel_rfl) rfl rfl (by kernel_rfl) (fun c hc => by cases hc) (by go_simp) ((rafter_any _ F w6 (HF.out _ (Bl.le HB6.out)) HS.out).mono ?_) ?_
    · rintro e w' ⟨⟨vp, rfl, hv⟩, hb⟩
      exact ⟨_, rfl, hv, hb⟩
    rintro v7 w7 ⟨hv7, hb7⟩
    have hS7 : (fun w'' : World => (∀ j, w''.cell? ⟨bF, j, none⟩ = (#[.string F.name, .int .i64 mo, .int .i64 pa, .slice Ab nb cb, .int .i64 ar, .int .i64 F.result.kind, .int .i64 F.result.id, .slice Ar F.result.args.length kr, .slice Al F.locals.length kl, .slice Ak F.blocks.length kk, .slice At nt ct] : Array Value)[j]?)) w7 := by
      have h := (HBF6.out.below hb7).cell
      rwa [HFC.out] at h
    refine ⟨hS7, ?_⟩
    have HB7 := Lib.hid (Bl.call HB6.out hb7)
    have HBF7 := Lib.hid (HBF6.out.below hb7)
    have HV6' := Lib.hid (HV6.out.mono monoSets (Bl.le hb7))
    have HV7 := Lib.hid hv7
    clear hb7 hS6 HB6 HBF6 HV6 hv7
    refine AnyS.enterD (i := 13) 22 (R := fun x w'' => x = .bool true ∧ Below w7.heap.size w7 w'') (by kernel_rfl) rfl rfl (by kernel_rfl) (fun c hc => by cases hc) (by go_simp) ((sameall_any v6 v7 (after F) (after F) w7 HV6'.out HV7.out).mono ?_) ?_
    · rintro e w' ⟨rfl, hb⟩
      exact ⟨_, rfl, by rw [decide_eq_true rfl], hb⟩
    rintro _ w8 ⟨rfl, hb8⟩
    have hS8 : (fun w'' : World => (∀ j, w''.cell? ⟨bF, j, none⟩ = (#[.string F.name, .int .i64 mo, .int .i64 pa, .slice Ab nb cb, .int .i64 ar, .int .i64 F.result.kind, .int .i64 F.result.id, .slice Ar F.result.args.length kr, .slice Al F.locals.length kl, .slice Ak F.blocks.length kk, .slice At nt ct] : Array Value)[j]?)) w8 := by
      have h := (HBF7.out.below hb8).cell
      rwa [HFC.out] at h
    refine ⟨hS8, ?_⟩
    have HB8 := Lib.hid (Bl.call HB7.out hb8)
    clear hb8 hS7 HB7 HBF7 HV6' HV7
    (refine AnyS.takeD (i := 14) 23 (v := ?_) (by kernel_rfl) rfl rfl (by kernel_rfl) (by kernel_rfl) (by kernel_rfl) (fun _ _ _ h => h) (by assumption) ⟨⟨by kernel_rfl, ?_⟩, fun _ => rfl⟩ ?_; rotate_left; (rintro w' hs1; go_simp; rfl))
    (refine AnyS.takeD (i := 15) 2 (v := ?_) (by kernel_rfl) rfl rfl (by kernel_rfl) (by kernel_rfl) (by kernel_rfl) (fun _ _ _ h => h) (by assumption) ⟨⟨by kernel_rfl, ?_⟩, fun _ => rfl⟩ ?_; rotate_left; (rintro w' hs1; go_simp; rfl))
    refine AnyS.act (by simp only [Act.put, List.setIfInBounds_toArray, List.set_cons_succ, List.set_cons_zero]; rfl) ?_
    refine AnyS.done (by kernel_rfl) ?_ _
    clear hS8
    go_wp2_with fail
    go_ret
    exact ⟨rfl, HB8.out⟩
end Go.Proofs.YtdkjkgokllmkmaaGreatDoor.Lv
