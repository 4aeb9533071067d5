/- LivenessEquations: the walk. -/
import Derived.Test.YtdkjkgokllmkmaaGreatDoorLxb
import Derived.Deep.DeepCutAuto
import Derived.Test.YtdkjkgokllmkmaaGreatDoorLxq
namespace Go.Proofs.YtdkjkgokllmkmaaGreatDoor.Lv
open Go.RowKit
set_option linter.unusedVariables false
set_option linter.unusedSimpArgs false
theorem RUs.defs' {c : Lk} {v0 v1 v2 v3 v4 : Value} {u : Us} (h : RUs c (.agg #[v0, v1, v2, v3, v4]) u) : RInts c v4 u.defs := by
  obtain ⟨q0, q1, q2, q3, q4, eq, p0, p1, p2, p3, p4⟩ := h
  simp only [Value.agg.injEq, Array.mk.injEq, List.cons.injEq, and_true] at eq
  obtain ⟨rfl, rfl, rfl, rfl, rfl⟩ := eq
  exact p4
set_option maxHeartbeats 64000000 in
set_option maxRecDepth 1000000 in
theorem equations_any (v : Value) (F : Fn) (w : World) (hF : RFn w.cell? v F) : Calls Tryz.prog 4 #[v] w fun e w' => e = .returned (.bool true) ∧ Below w.heap.size w w' := by
  obtain ⟨mo, pa, ar, vb, vr, vl', vk, vt, Ab, At, nb, cb, nt, ct, rfl, rfl, rfl, m1, m2, ⟨Ar, kr, rfl, hr1, hr2, hr3⟩, ⟨Al, kl, rfl, g1, g2, hL⟩, ⟨Ak, kk, rfl, hk1, hk2, hk3⟩⟩ := id hF
  have HF := Lib.hid (fun c (hc : Le w.cell? c) => hF.mono hc)
  clear hF hr3 hL hk3
  go_enter Tryz.func4, Tryz.ntmps4
  go_wp2_with fail
  obtain ⟨FC, hFC⟩ : ∃ FC : Array Value, FC = #[.string F.name, .int .i64 mo, .int .i64 pa, .slice Ab nb cb, .int .i64 ar, .int .i64 F.result.kind, .int .i64 F.result.id, .slice Ar F.result.args.length kr, .slice Al F.locals.length kl, .slice Ak F.blocks.length kk, .slice At nt ct] := ⟨_, rfl⟩
  rw [← hFC]
  have HFC := Lib.hid hFC
  clear hFC
  obtain ⟨bF, hbF⟩ : ∃ bF, bF = w.heap.size := ⟨_, rfl⟩
  rw [← hbF]
  generalize hW : World.alloc _ _ = W
  have HB0 : Hid (Below w.heap.size w W) := by rw [← hW]; exact Bl.alloc (Below.refl _ _) _
  have HBF0 : Hid (Bx W bF 29 FC) := by
    show Bx _ _ _ _
    rw [← hW]
    exact Bx.at0 _ _ _ hbF
  have hbF2 : w.heap.size ≤ bF := by omega
  clear hW hbF
  refine (head_any W).mono ?_
  rintro e w1 ⟨rfl, hb1⟩
  have HB1 := Lib.hid (Bl.call HB0.out hb1)
  have HBF1 := Lib.hid (HBF0.out.below hb1)
  clear hb1 HB0 HBF0
  have cF := HBF1.out.cell
  rw [HFC.out] at cF
  go_wp2_with fail
  refine (tiny_any _ F w1 (HF.out _ (Bl.le HB1.out))).mono ?_
  rintro e w2 ⟨⟨bt, rfl, hty⟩, hb2⟩
  have HB2 := Lib.hid (Bl.call HB1.out hb2)
  have HBF2 := Lib.hid (HBF1.out.below hb2)
  clear hb2 HB1 HBF1 cF
  cases bt with
  | false =>
    go_wp2_with fail
    go_ret
    exact ⟨rfl, HB2.out⟩
  | true =>
    have HS := Lib.hid (hty rfl).szd
    clear hty
    have cF := HBF2.out.cell
    rw [HFC.out] at cF
    go_wp2_with fail
    refine (before_any _ F w2 (HF.out _ (Bl.le HB2.out)) HS.out).mono ?_
    rintro e w3 ⟨⟨vb, rfl, hvb⟩, hb3⟩
    have HVB := Lib.hid hvb
    have HB3 := Lib.hid (Bl.call HB2.out hb3)
    have HBF3 := Lib.hid (HBF2.out.below hb3)
    clear hvb hb3 HB2 HBF2 cF
    have cF := HBF3.out.cell
    rw [HFC.out] at cF
    go_wp2_with fail
    refine (after_any _ F w3 (HF.out _ (Bl.le HB3.out)) HS.out).mono ?_
    rintro e w4 ⟨⟨va, rfl, hva⟩, hb4⟩
    have HVA := Lib.hid hva
    have HVB4 := Lib.hid (HVB.out.mono monoSets (Bl.le hb4))
    have HB4 := Lib.hid (Bl.call HB3.out hb4)
    have HBF4 := Lib.hid (HBF3.out.below hb4)
    clear hva hb4 HB3 HBF3 HVB cF
    have cF := HBF4.out.cell
    rw [HFC.out] at cF
    go_wp2_with fail
    refine (sized_true _ vb F (before F) w4 (HF.out _ (Bl.le HB4.out)) HS.out HVB4.out before_rows (before_len F)).mono ?_
    rintro e w5 ⟨rfl, hb5⟩
    have HVA5 := Lib.hid (HVA.out.mono monoSets (Bl.le hb5))
    have HVB5 := Lib.hid (HVB4.out.mono monoSets (Bl.le hb5))
    have HB5 := Lib.hid (Bl.call HB4.out hb5)
    have HBF5 := Lib.hid (HBF4.out.below hb5)
    clear hb5 HB4 HBF4 HVB4 HVA cF
    have cF := HBF5.out.cell
    rw [HFC.out] at cF
    go_wp2_with fail
    refine (sized_true _ va F (after F) w5 (HF.out _ (Bl.le HB5.out)) HS.out HVA5.out after_rows (after_len F)).mono ?_
    rintro e w6 ⟨rfl, hb6⟩
    have HVA6 := Lib.hid (HVA5.out.mono monoSets (Bl.le hb6))
    have HVB6 := Lib.hid (HVB5.out.mono monoSets (Bl.le hb6))
    have HB6 := Lib.hid (Bl.call HB5.out hb6)
    have HBF6 := Lib.hid (HBF5.out.below hb6)
    clear hb6 HB5 HBF5 HVB5 HVA5 cF
    have cF := HBF6.out.cell
    rw [HFC.out] at cF
    go_wp2_with fail
    refine (points_any _ F w6 (HF.out _ (Bl.le HB6.out)) HS.out).mono ?_
    rintro e w7 ⟨⟨vp, rfl, hvp⟩, hb7⟩
    have HVP := Lib.hid hvp
    have HVA7 := Lib.hid (HVA6.out.mono monoSets (Bl.le hb7))
    have HVB7 := Lib.hid (HVB6.out.mono monoSets (Bl.le hb7))
    have HB7 := Lib.hid (Bl.call HB6.out hb7)
    have HBF7 := Lib.hid (HBF6.out.below hb7)
    clear hb7 HB6 HBF6 HVB6 HVA6 hvp cF
    have cF := HBF7.out.cell
    rw [HFC.out] at cF
    have hll := HS.out.locals
    have e38 := Tryz.mk38 F.locals.length (by omega)
    obtain ⟨XB, kB, rfl, xb1, xb2, xb3⟩ := HVB7.out
    obtain ⟨XA, kA, rfl, xa1, xa2, xa3⟩ := HVA7.out
    obtain ⟨XP, kP, rfl, xp1, xp2, xp3⟩ := HVP.out
    have HXB := Lib.hid xb3
    have HXA := Lib.hid xa3
    have HXP := Lib.hid xp3
    clear xb3 xa3 xp3 HVB7 HVA7 HVP xb1 xb2 xa1 xa2 xp1 xp2
    rw [before_len, after_len]
    have hnb : (pts F).length ≤ 1000 := by
      have h1 := offs_le F HS.out F.blocks.length (Nat.le_refl _)
      have h2 := HS.out.blocks
      rw [pts_len]
      omega
    obtain ⟨np, hnp⟩ : ∃ np, np = (pts F).length := ⟨_, rfl⟩
    rw [← hnp] at hnb ⊢
    have HNP := Lib.hid hnp
    clear hnp
    go_wp2_with fail
    obtain ⟨bU, hbU⟩ : ∃ bU, bU = w7.heap.size := ⟨_, rfl⟩
    rw [← hbU]
    generalize hW8 : World.alloc _ _ = W8
    have HB8 : Hid (Below w.heap.size w W8) := by rw [← hW8]; exact Bl.alloc HB7.out _
    have HBF8 : Hid (Bx W8 bF 29 FC) := by rw [← hW8]; exact HBF7.out.alloc _
    have HBU8 : Hid (Bx W8 bU 4 (tabA F.locals.length fun a => .bool (usedK F 0 a))) := by
      show Bx _ _ _ _
      rw [← hW8]
      exact Bx.at0 _ _ _ hbU
    have hbU2 : w.heap.size ≤ bU := by rw [hbU]; exact HB7.out.size
    have hle8 : Le w7.cell? (look [bU] W8) := by
      rw [← hW8]
      exact le_lookD (Bl.alloc (Below.refl _ _) _) (fun k hk => by rw [List.mem_singleton] at hk; omega)
    have HXB8 := Lib.hid (HXB.out.mono monoSets hle8)
    have HXA8 := Lib.hid (HXA.out.mono monoSets hle8)
    have HXP8 := Lib.hid (HXP.out.mono monoPt hle8)
    have hne : bF ≠ bU := by have := HBF7.out.lt; omega
    clear hW8 hbU hle8 HXB HXA HXP HB7 HBF7 cF
    go_loopw [8] (fun i wr => ∃ (k : Nat), i = .int .i64 k ∧ k ≤ np ∧ Hid (Below w.heap.size w wr) ∧ Hid (Chg [bU] W8 wr) ∧ Hid (Bx wr bU 4 (tabA F.locals.length fun a => .bool (usedK F k a)))) (fun i _ => np - (intOf i).toNat)
    case atStart => exact ⟨0, rfl, Nat.zero_le _, HB8, Chg.refl _ _, HBU8⟩
    case round =>
      clear HB8 HBU8
      obtain ⟨k, rfl, hk, HB, HC, HBU⟩ := hrel
      have HBF := Lib.hid (HBF8.out.chg HC.out (by simpa using hne))
      by_cases hkn : k < np
      · have hki : (k : Int) < (np : Int) := by omega
        have hkp : k < (pts F).length := by rw [← HNP.out]; exact hkn
        obtain ⟨ap, rfl, c0, c1⟩ := (RRow.mono monoPt (Chg.le' HC.out) HXP8.out).pt_at k hkp
        have hp := pts_at hkp
        obtain ⟨p1, p2, hpe⟩ : ∃ p1 p2, (pts F).getD k (0, 0) = (p1, p2) := ⟨_, _, rfl⟩
        rw [hpe] at c0 c1 hp
        simp only at c0 c1
        have HPE := Lib.hid hpe
        have HP := Lib.hid hp
        have hp2 : p2 < 1000 := by
          have h1 := HS.out.code _ (getD_mem hp.1)
          have h2 := hp.2
          unfold Fn.blk at h2
          simp only at h2 h1
          omega
        have hcF := HBF.out.cell
        rw [HFC.out] at hcF
        clear hp hpe hkp
        go_upto_region 13 with fail
        refine region_anyS (S := (fun w'' : World => (∀ j, w''.cell? ⟨bF, j, none⟩ = (#[.string F.name, .int .i64 mo, .int .i64 pa, .slice Ab nb cb, .int .i64 ar, .int .i64 F.result.kind, .int .i64 F.result.id, .slice Ar F.result.args.length kr, .slice Al F.locals.length kl, .slice Ak F.blocks.length kk, .slice At nt ct] : Array Value)[j]?) ∧ w''.cell? (ap.add (k * 2)) = some (.int .i64 (p1 : Nat)) ∧ w''.cell? ⟨(ap.add (k * 2)).block, (ap.add (k * 2)).off + 1, none⟩ = some (.int .i64 (p2 : Nat)))) ?_
        have hSd : (fun w'' : World => (∀ j, w''.cell? ⟨bF, j, none⟩ = (#[.string F.name, .int .i64 mo, .int .i64 pa, .slice Ab nb cb, .int .i64 ar, .int .i64 F.result.kind, .int .i64 F.result.id, .slice Ar F.result.args.length kr, .slice Al F.locals.length kl, .slice Ak F.blocks.length kk, .slice At nt ct] : Array Value)[j]?) ∧ w''.cell? (ap.add (k * 2)) = some (.int .i64 (p1 : Nat)) ∧ w''.cell? ⟨(ap.add (k * 2)).block, (ap.add (k * 2)).off + 1, none⟩ = some (.int .i64 (p2 : Nat))) wr.drew := ⟨hcF, c0, c1⟩
        (refine AnyS.takeD (i := 0) 47 (v := ?_) (by kernel_rfl) rfl rfl (by kernel_rfl) (by kernel_rfl) (by kernel_rfl) (fun _ _ _ h => h) (by assumption) ⟨⟨by kernel_rfl, ?_⟩, fun _ => rfl⟩ ?_; rotate_left; (rintro w' ⟨hs1, hs2, hs3⟩; go_simp; rfl))
        (refine AnyS.takeD (i := 1) 48 (v := ?_) (by kernel_rfl) rfl rfl (by kernel_rfl) (by kernel_rfl) (by kernel_rfl) (fun _ _ _ h => h) (by assumption) ⟨⟨by kernel_rfl, ?_⟩, fun _ => rfl⟩ ?_; rotate_left; (rintro w' ⟨hs1, hs2, hs3⟩; go_simp; rfl))
        (refine AnyS.takeD (i := 2) 49 (v := ?_) (by kernel_rfl) rfl rfl (by kernel_rfl) (by kernel_rfl) (by kernel_rfl) (fun _ _ _ h => h) (by assumption) ⟨⟨by kernel_rfl, ?_⟩, fun _ => rfl⟩ ?_; rotate_left; (rintro w' ⟨hs1, hs2, hs3⟩; go_simp; rfl))
        (refine AnyS.takeD (i := 3) 50 (v := ?_) (by kernel_rfl) rfl rfl (by kernel_rfl) (by kernel_rfl) (by kernel_rfl) (fun _ _ _ h => h) (by assumption) ⟨⟨by kernel_rfl, ?_⟩, fun _ => rfl⟩ ?_; rotate_left; (rintro w' ⟨hs1, hs2, hs3⟩; go_simp; rfl))
        (refine AnyS.takeD (i := 4) 51 (v := ?_) (by kernel_rfl) rfl rfl (by kernel_rfl) (by kernel_rfl) (by kernel_rfl) (fun _ _ _ h => h) (by assumption) ⟨⟨by kernel_rfl, ?_⟩, fun _ => rfl⟩ ?_; rotate_left; (rintro w' ⟨hs1, hs2, hs3⟩; go_simp; rfl))
        refine AnyS.atAlloc (i := 5) (j := 6) (k := 7) (us := at_ F (p1, p2)) (args := #[.agg #[.string F.name, .int .i64 mo, .int .i64 pa, .slice Ab nb cb, .int .i64 ar, .int .i64 F.result.kind, .int .i64 F.result.id, .slice Ar F.result.args.length kr, .slice Al F.locals.length kl, .slice Ak F.blocks.length kk, .slice At nt ct], .agg #[.int .i64 (p1 : Nat), .int .i64 (p2 : Nat)]]) 52 9 rfl rfl rfl (fun _ => rfl) (fun _ => rfl) (fun _ => rfl) (by intro c h; cases h) (by intro c h; cases h) (by intro c h; cases h) rfl rfl rfl (by decide)
          (by kernel_rfl) (by kernel_rfl) (by kernel_rfl) (by kernel_rfl) (by kernel_rfl) (by kernel_rfl) (by kernel_rfl) ?ci ?ci' ?cj ?cj' ?ck ?hcall ?hS ?hQ
        case ci => intro w''; go_simp
        case ci' => intro p w''; go_simp
        case cj => intro w''; go_simp; rfl
        case cj' => intro u w''; go_simp; rfl
        case ck => intro b A0 n0 k0 A1 n1 k1 A2 n2 k2 A3 n3 k3 A4 n4 k4 w'' h1 h2; unfold nilS at h1; go_simp
        case hcall => exact fun w' hb' => at_any _ F p1 p2 w' (HF.out _ (Bl.le (Bl.call (Bl.drew HB.out) hb'))) HS.out HP.out.1 hp2
        case hS =>
          intro w' hb'
          have hb'' : Below wr.heap.size wr w' := Bl.call (Bl.drew (Below.refl _ _)) hb'
          have h3 := (HBF.out.below hb'').cell
          rw [HFC.out] at h3
          exact ⟨h3, Bl.le hb'' _ _ c0, Bl.le hb'' _ _ c1⟩
        case hQ =>
          intro bu A0 k0 A1 k1 A2 k2 A3 k3 A4 k4 w9 hb9 hbu hx hu
          have hb9' : Below wr.heap.size wr w9 := Bl.call (Bl.drew (Below.refl _ _)) hb9
          have HB9 := Lib.hid (Bl.call HB.out hb9')
          have HC9 := Lib.hid (HC.out.call hb9')
          have HBU9 := Lib.hid (HBU.out.below hb9')
          have HBF9 := Lib.hid (HBF.out.below hb9')
          have HX9 := Lib.hid hx
          have HU9 := Lib.hid ((hu.mono (look_le _ _)).avoid HBU9.out bools_no)
          have hbun : bu ≠ bU := fun e => by
            have h1 := HBU.out.lt
            have h2 : wr.heap.size ≤ bu := hbu
            omega
          have hbuF : bu ≠ bF := fun e => by
            have h1 := HBF.out.lt
            have h2 : wr.heap.size ≤ bu := hbu
            omega
          have d0 := Bl.le hb9' _ _ c0
          have d1 := Bl.le hb9' _ _ c1
          clear hSd hcF hb9 hb9' hx hu c0 c1 HB HC HBU HBF hbu
          have hcF := HBF9.out.cell
          rw [HFC.out] at hcF
          go_upto_region 14 with fail
          refine region_anyS (S := (fun w'' : World => (∀ j, w''.cell? ⟨bF, j, none⟩ = (#[.string F.name, .int .i64 mo, .int .i64 pa, .slice Ab nb cb, .int .i64 ar, .int .i64 F.result.kind, .int .i64 F.result.id, .slice Ar F.result.args.length kr, .slice Al F.locals.length kl, .slice Ak F.blocks.length kk, .slice At nt ct] : Array Value)[j]?) ∧ w''.cell? (ap.add (k * 2)) = some (.int .i64 (p1 : Nat)) ∧ w''.cell? ⟨(ap.add (k * 2)).block, (ap.add (k * 2)).off + 1, none⟩ = some (.int .i64 (p2 : Nat)))) ?_
          have hSd : (fun w'' : World => (∀ j, w''.cell? ⟨bF, j, none⟩ = (#[.string F.name, .int .i64 mo, .int .i64 pa, .slice Ab nb cb, .int .i64 ar, .int .i64 F.result.kind, .int .i64 F.result.id, .slice Ar F.result.args.length kr, .slice Al F.locals.length kl, .slice Ak F.blocks.length kk, .slice At nt ct] : Array Value)[j]?) ∧ w''.cell? (ap.add (k * 2)) = some (.int .i64 (p1 : Nat)) ∧ w''.cell? ⟨(ap.add (k * 2)).block, (ap.add (k * 2)).off + 1, none⟩ = some (.int .i64 (p2 : Nat))) w9.drew := ⟨hcF, d0, d1⟩
          (refine AnyS.takeD (i := 0) 53 (v := ?_) (by kernel_rfl) rfl rfl (by kernel_rfl) (by kernel_rfl) (by kernel_rfl) (fun _ _ _ h => h) (by assumption) ⟨⟨by kernel_rfl, ?_⟩, fun _ => rfl⟩ ?_; rotate_left; (rintro w' ⟨hs1, hs2, hs3⟩; go_simp; rfl))
          (refine AnyS.takeD (i := 1) 54 (v := ?_) (by kernel_rfl) rfl rfl (by kernel_rfl) (by kernel_rfl) (by kernel_rfl) (fun _ _ _ h => h) (by assumption) ⟨⟨by kernel_rfl, ?_⟩, fun _ => rfl⟩ ?_; rotate_left; (rintro w' ⟨hs1, hs2, hs3⟩; go_simp; rfl))
          (refine AnyS.takeD (i := 2) 55 (v := ?_) (by kernel_rfl) rfl rfl (by kernel_rfl) (by kernel_rfl) (by kernel_rfl) (fun _ _ _ h => h) (by assumption) ⟨⟨by kernel_rfl, ?_⟩, fun _ => rfl⟩ ?_; rotate_left; (rintro w' ⟨hs1, hs2, hs3⟩; go_simp; rfl))
          (refine AnyS.takeD (i := 3) 56 (v := ?_) (by kernel_rfl) rfl rfl (by kernel_rfl) (by kernel_rfl) (by kernel_rfl) (fun _ _ _ h => h) (by assumption) ⟨⟨by kernel_rfl, ?_⟩, fun _ => rfl⟩ ?_; rotate_left; (rintro w' ⟨hs1, hs2, hs3⟩; go_simp; rfl))
          (refine AnyS.takeD (i := 4) 57 (v := ?_) (by kernel_rfl) rfl rfl (by kernel_rfl) (by kernel_rfl) (by kernel_rfl) (fun _ _ _ h => h) (by assumption) ⟨⟨by kernel_rfl, ?_⟩, fun _ => rfl⟩ ?_; rotate_left; (rintro w' ⟨hs1, hs2, hs3⟩; go_simp; rfl))
          refine AnyS.one (i := 5) (by kernel_rfl) ?_
          refine wpOpIn_step rfl (fun K hK => ?_)
          go_simp
          refine ⟨trivial, ?_⟩
          refine (callsIn_wide.2 (next_any _ F p1 p2 w9.drew (HF.out _ (Bl.le (Bl.drew HB9.out))) HS.out HP.out.1 HP.out.2)).mono ?_
          rintro e w10 ⟨⟨vn, rfl, hvn⟩, hb10⟩
          have hb10' : Below w9.heap.size w9 w10 := Bl.call (Bl.drew (Below.refl _ _)) hb10
          have h3 := (HBF9.out.below hb10').cell
          rw [HFC.out] at h3
          have hS10 : (fun w'' : World => (∀ j, w''.cell? ⟨bF, j, none⟩ = (#[.string F.name, .int .i64 mo, .int .i64 pa, .slice Ab nb cb, .int .i64 ar, .int .i64 F.result.kind, .int .i64 F.result.id, .slice Ar F.result.args.length kr, .slice Al F.locals.length kl, .slice Ak F.blocks.length kk, .slice At nt ct] : Array Value)[j]?) ∧ w''.cell? (ap.add (k * 2)) = some (.int .i64 (p1 : Nat)) ∧ w''.cell? ⟨(ap.add (k * 2)).block, (ap.add (k * 2)).off + 1, none⟩ = some (.int .i64 (p2 : Nat))) w10 := ⟨h3, Bl.le hb10' _ _ d0, Bl.le hb10' _ _ d1⟩
          refine hK _ _ ⟨hS10, ?_⟩
          have HB10 := Lib.hid (Bl.call HB9.out hb10')
          have HC10 := Lib.hid (HC9.out.call hb10')
          have HBU10 := Lib.hid (HBU9.out.below hb10')
          have HX10 := Lib.hid (HX9.out.below hb10')
          have HU10 := Lib.hid (HU9.out.mono (Chg.of_below hb10' [bU]).le)
          have HN10 := Lib.hid (RPts.avoid hvn HBU10.out bools_no)
          clear hK K hb10 hb10' hSd h3 hcF HB9 HC9 HBU9 HBF9 HX9 HU9 hvn d0 d1
          (refine AnyS.takeD (i := 6) 10 (v := ?_) (by kernel_rfl) rfl rfl (by kernel_rfl) (by kernel_rfl) (by kernel_rfl) (fun _ _ _ h => h) (by assumption) ⟨⟨by kernel_rfl, ?_⟩, fun _ => rfl⟩ ?_; rotate_left; (rintro w' ⟨hs1, hs2, hs3⟩; go_simp; rfl))
          refine AnyS.done (by kernel_rfl) ?_ _
          clear hS10
          obtain ⟨XN, kN, rfl, xn1, xn2, xn3⟩ := HN10.out
          have HXN := Lib.hid xn3
          have hnx : (next F (p1, p2)).length ≤ 9223372036854775807 := by unfold maxLen at xn2; omega
          clear xn3 HN10 xn1 xn2
          obtain ⟨l, hl⟩ : ∃ l, l = next F (p1, p2) := ⟨_, rfl⟩
          rw [← hl] at HXN hnx ⊢
          have HL := Lib.hid hl
          have HNP2 := Lib.hid (fun q (hq : q ∈ l) => next_pt HP.out (hl ▸ hq))
          obtain ⟨us, hus⟩ : ∃ us, us = at_ F (p1, p2) := ⟨_, rfl⟩
          rw [← hus] at HU10 HX10 ⊢
          have HUS := Lib.hid hus
          clear hl hus
          have HBF10 := Lib.hid (HBF8.out.chg HC10.out (by simpa using hne))
          have HXB10 := Lib.hid (HXB8.out.mono monoSets HC10.out.le)
          have HXA10 := Lib.hid (HXA8.out.mono monoSets HC10.out.le)
          go_wp2_with fail
          go_loopw [11] (fun t wr2 => ∃ (v : Nat), t = .int .i64 v ∧ v ≤ F.locals.length ∧ Hid (Below w.heap.size w wr2) ∧ Hid (Chg [bU] w10 wr2) ∧ Hid (Bx wr2 bU 4 (tabA F.locals.length fun a => .bool (if a < v then usedK F (k + 1) a else usedK F k a)))) (fun t _ => F.locals.length - (intOf t).toNat)
          case atStart => exact ⟨0, rfl, Nat.zero_le _, HB10, Chg.refl _ _, by simpa using HBU10⟩
          case round =>
            clear HBU10
            obtain ⟨v, rfl, hv, HB, HC, HBU⟩ := hrel
            have HBF := Lib.hid (HBF10.out.chg HC.out (by simpa using hne))
            have HX := Lib.hid (HX10.out.chg HC.out (by simpa using hbun))
            have hcF := HBF.out.cell
            rw [HFC.out] at hcF
            by_cases hvn : v < F.locals.length
            · have hvi : (v : Int) < (F.locals.length : Int) := by omega
              obtain ⟨ub, hub⟩ : ∃ ub, ub = usedK F k v := ⟨_, rfl⟩
              have cU : wr.cell? ⟨bU, v, none⟩ = some (.bool ub) := by
                rw [HBU.out.cell, tabA_get hvn, if_neg (by omega), hub]
              have hUS : Hid (usedK F (k + 1) v = (ub || us.used v)) := by
                show _ = _
                rw [usedK_succ (by rw [← HNP.out]; exact hkn), HPE.out, hub, ← HUS.out]
              have cX := HX.out.cell
              clear hub
              obtain ⟨b2, hb2⟩ : ∃ b2, b2 = usedK F (k + 1) v := ⟨_, rfl⟩
              have HT : Hid (∀ w2, Bx w2 bU 4 ((tabA F.locals.length fun a => .bool (if a < v then usedK F (k + 1) a else usedK F k a)).setIfInBounds v (.bool b2)) → Bx w2 bU 4 (tabA F.locals.length fun a => .bool (if a < v + 1 then usedK F (k + 1) a else usedK F k a))) := fun w2 h => by
                rw [tabA_set, tabA_congr (g := fun a => .bool (if a < v + 1 then usedK F (k + 1) a else usedK F k a)) (fun j hj => ?_)] at h
                · exact h
                · by_cases e : j = v
                  · subst e
                    simp [hb2]
                  · have e2 : (j < v + 1) ↔ (j < v) := by omega
                    simp [e, e2]
              rw [← hb2] at hUS
              clear hb2
              have fU := HBU.out.frozen v
              go_upto_region 18 with fail
              go_cut [] (fun wx => Hid (Below w.heap.size w wx) ∧ Hid (Chg [bU] w10 wx) ∧ Hid (Bx wx bU 4 (tabA F.locals.length fun a => .bool (if a < v + 1 then usedK F (k + 1) a else usedK F k a))))
              case first =>
                cases ub
                case true =>
                  have HBU12 : ∀ w12, w12 = wr.setCell ⟨bU, v, none⟩ (.bool true) → Hid (Bx w12 bU 4 (tabA F.locals.length fun a => .bool (if a < v + 1 then usedK F (k + 1) a else usedK F k a))) := fun w12 e => by
                    have h1 := hUS.out
                    rw [Bool.true_or] at h1
                    rw [h1] at HT
                    rw [e]
                    exact HT.out _ (HBU.out.set v (.bool true))
                  have HC12 : ∀ w12, w12 = wr.setCell ⟨bU, v, none⟩ (.bool true) → Hid (Chg [bU] w10 w12) := fun w12 e => by
                    rw [e]
                    exact HC.out.put (.inl (by simp)) _
                  have HB12 : ∀ w12, w12 = wr.setCell ⟨bU, v, none⟩ (.bool true) → Hid (Below w.heap.size w w12) := fun w12 e => by
                    rw [e]
                    exact Bl.set HB.out hbU2 _
                  clear HB
                  go_wp2_with fail
                  go_meet
                  case rel => exact ⟨HB12 _ rfl, HC12 _ rfl, HBU12 _ rfl⟩
                case false =>
                  go_wp2_with fail
                  refine (used_any _ us v wr (HU10.out.mono (Chg.le' HC.out))).mono ?_
                  rintro e w11 ⟨rfl, hb11⟩
                  have fU := (HBU.out.below hb11).frozen v
                  have cU := Bl.le hb11 _ _ cU
                  have HBU12 : ∀ w12, w12 = w11.setCell ⟨bU, v, none⟩ (.bool (us.used v)) → Hid (Bx w12 bU 4 (tabA F.locals.length fun a => .bool (if a < v + 1 then usedK F (k + 1) a else usedK F k a))) := fun w12 e => by
                    have h1 := hUS.out
                    rw [Bool.false_or] at h1
                    rw [h1] at HT
                    rw [e]
                    exact HT.out _ ((HBU.out.below hb11).set v (.bool (us.used v)))
                  have HC12 : ∀ w12, w12 = w11.setCell ⟨bU, v, none⟩ (.bool (us.used v)) → Hid (Chg [bU] w10 w12) := fun w12 e => by
                    rw [e]
                    exact (HC.out.call hb11).put (.inl (by simp)) _
                  have HB12 : ∀ w12, w12 = w11.setCell ⟨bU, v, none⟩ (.bool (us.used v)) → Hid (Below w.heap.size w w12) := fun w12 e => by
                    rw [e]
                    exact Bl.set (Bl.call HB.out hb11) hbU2 _
                  clear HB hb11
                  go_wp2_with fail
                  go_meet
                  case rel => exact ⟨HB12 _ rfl, HC12 _ rfl, HBU12 _ rfl⟩
              case rest =>
                obtain ⟨HB12, HC12, HBU12⟩ := hcut
                clear HC HBU HB cU cX fU hUS HT HX HBF hcF
                go_wp2_with fail
                go_loopw [12, 13] (fun s t wr => ∃ (m : Nat), t = .int .i64 m ∧ m ≤ l.length ∧ s = .bool (someK F l v m) ∧ Hid (Below w.heap.size w wr) ∧ Hid (Chg [bU] w10 wr) ∧ Hid (Bx wr bU 4 (tabA F.locals.length fun a => .bool (if a < v + 1 then usedK F (k + 1) a else usedK F k a)))) (fun _ t _ => l.length - (intOf t).toNat)
                case atStart => exact ⟨0, rfl, Nat.zero_le _, by rw [someK_zero], HB12, HC12, HBU12⟩
                case round =>
                  clear HB12 HC12 HBU12
                  obtain ⟨m, rfl, hm, rfl, HB, HC, HBU⟩ := hrel
                  have HBF := Lib.hid (HBF10.out.chg HC.out (by simpa using hne))
                  have HX := Lib.hid (HX10.out.chg HC.out (by simpa using hbun))
                  by_cases hml : m < l.length
                  · have hmi : (m : Int) < (l.length : Int) := by omega
                    obtain ⟨aq, rfl, c0, c1⟩ := (RRow.mono monoPt (Chg.le' HC.out) HXN.out).pt_at m hml
                    have hq : isPt F (l.getD m (0, 0)) := HNP2.out _ (by rw [List.getD_eq_getElem?_getD, List.getElem?_eq_getElem hml]; exact List.getElem_mem hml)
                    have hsn := Lib.hid (someK_succ (F := F) (v := v) hml)
                    obtain ⟨q1, q2, hqe⟩ : ∃ q1 q2, l.getD m (0, 0) = (q1, q2) := ⟨_, _, rfl⟩
                    rw [hqe] at c0 c1 hq hsn
                    simp only at c0 c1
                    have hil := idx_lt hq
                    obtain ⟨ix, hix⟩ : ∃ ix, ix = idx F (q1, q2) := ⟨_, rfl⟩
                    rw [← hix] at hil
                    obtain ⟨ab, vs, rfl, cx, hvs⟩ := (RRow.mono monoSets (Chg.le' HC.out) HXB10.out).set_at ix (by rw [before_len]; exact hil)
                    obtain ⟨As, ks, rfl, _, _, s3⟩ := hvs
                    have hsl : ((before F).getD ix []).length = F.locals.length := before_rows _ (by rw [List.getD_eq_getElem?_getD, List.getElem?_eq_getElem (by rw [before_len]; exact hil)]; exact List.getElem_mem _)
                    rw [hsl] at cx
                    obtain ⟨asp, rfl, cy⟩ := s3.bool_at' v (by rw [hsl]; exact hvn)
                    obtain ⟨sb, hsb⟩ : ∃ sb, sb = ((before F).getD ix []).getD v false := ⟨_, rfl⟩
                    rw [← hsb] at cy
                    have HSB : Hid (sb = liveB F (q1, q2) v) := by
                      show _ = _
                      rw [hsb, hix, before_idx hq hvn]
                    have HQ := Lib.hid hq
                    have HIX := Lib.hid hix
                    have hii : (ix : Int) < (np : Int) := by rw [HNP.out]; omega
                    have hcF := HBF.out.cell
                    rw [HFC.out] at hcF
                    clear hq hqe hix hsl hsb s3 hil
                    obtain ⟨so, hso⟩ : ∃ so, so = someK F l v m := ⟨_, rfl⟩
                    have HSO := Lib.hid hso
                    rw [← hso]
                    clear hso
                    go_upto_region 23 with fail
                    refine region_anyS (S := (fun w'' : World => (∀ j, w''.cell? ⟨bF, j, none⟩ = (#[.string F.name, .int .i64 mo, .int .i64 pa, .slice Ab nb cb, .int .i64 ar, .int .i64 F.result.kind, .int .i64 F.result.id, .slice Ar F.result.args.length kr, .slice Al F.locals.length kl, .slice Ak F.blocks.length kk, .slice At nt ct] : Array Value)[j]?) ∧ w''.cell? (aq.add (m * 2)) = some (.int .i64 (q1 : Nat)) ∧ w''.cell? ⟨(aq.add (m * 2)).block, (aq.add (m * 2)).off + 1, none⟩ = some (.int .i64 (q2 : Nat)) ∧ w''.cell? (ab.add ix) = some (.slice (some asp) F.locals.length ks) ∧ w''.cell? (asp.add v) = some (.bool sb))) ?_
                    have hSd : (fun w'' : World => (∀ j, w''.cell? ⟨bF, j, none⟩ = (#[.string F.name, .int .i64 mo, .int .i64 pa, .slice Ab nb cb, .int .i64 ar, .int .i64 F.result.kind, .int .i64 F.result.id, .slice Ar F.result.args.length kr, .slice Al F.locals.length kl, .slice Ak F.blocks.length kk, .slice At nt ct] : Array Value)[j]?) ∧ w''.cell? (aq.add (m * 2)) = some (.int .i64 (q1 : Nat)) ∧ w''.cell? ⟨(aq.add (m * 2)).block, (aq.add (m * 2)).off + 1, none⟩ = some (.int .i64 (q2 : Nat)) ∧ w''.cell? (ab.add ix) = some (.slice (some asp) F.locals.length ks) ∧ w''.cell? (asp.add v) = some (.bool sb)) wr.drew := ⟨hcF, c0, c1, cx, cy⟩
                    cases so with
                    | true =>
                      (refine AnyS.takeD (i := 0) 84 (v := ?_) (by kernel_rfl) rfl rfl (by kernel_rfl) (by kernel_rfl) (by kernel_rfl) (fun _ _ _ h => h) (by assumption) ⟨⟨by kernel_rfl, ?_⟩, fun _ => rfl⟩ ?_; rotate_left; (rintro w' ⟨hs1, hs2, hs3, hs4, hs5⟩; go_simp; rfl))
                      (refine AnyS.takeD (i := 1) 85 (v := ?_) (by kernel_rfl) rfl rfl (by kernel_rfl) (by kernel_rfl) (by kernel_rfl) (fun _ _ _ h => h) (by assumption) ⟨⟨by kernel_rfl, ?_⟩, fun _ => rfl⟩ ?_; rotate_left; (rintro w' ⟨hs1, hs2, hs3, hs4, hs5⟩; go_simp; rfl))
                      (refine AnyS.offD (i := 2) 86 (by kernel_rfl) rfl rfl (by kernel_rfl) (by kernel_rfl) (by kernel_rfl) (fun _ _ _ h => h) (by assumption) (by kernel_rfl) ?_)
                      (refine AnyS.offD (i := 3) 87 (by kernel_rfl) rfl rfl (by kernel_rfl) (by kernel_rfl) (by kernel_rfl) (fun _ _ _ h => h) (by assumption) (by kernel_rfl) ?_)
                      (refine AnyS.offD (i := 4) 88 (by kernel_rfl) rfl rfl (by kernel_rfl) (by kernel_rfl) (by kernel_rfl) (fun _ _ _ h => h) (by assumption) (by kernel_rfl) ?_)
                      (refine AnyS.offD (i := 5) 89 (by kernel_rfl) rfl rfl (by kernel_rfl) (by kernel_rfl) (by kernel_rfl) (fun _ _ _ h => h) (by assumption) (by kernel_rfl) ?_)
                      (refine AnyS.offD (i := 6) 90 (by kernel_rfl) rfl rfl (by kernel_rfl) (by kernel_rfl) (by kernel_rfl) (fun _ _ _ h => h) (by assumption) (by kernel_rfl) ?_)
                      (refine AnyS.offD (i := 7) 91 (by kernel_rfl) rfl rfl (by kernel_rfl) (by kernel_rfl) (by kernel_rfl) (fun _ _ _ h => h) (by assumption) (by kernel_rfl) ?_)
                      (refine AnyS.offD (i := 8) 92 (by kernel_rfl) rfl rfl (by kernel_rfl) (by kernel_rfl) (by kernel_rfl) (fun _ _ _ h => h) (by assumption) (by kernel_rfl) ?_)
                      (refine AnyS.offD (i := 9) 93 (by kernel_rfl) rfl rfl (by kernel_rfl) (by kernel_rfl) (by kernel_rfl) (fun _ _ _ h => h) (by assumption) (by kernel_rfl) ?_)
                      (refine AnyS.offD (i := 10) 94 (by kernel_rfl) rfl rfl (by kernel_rfl) (by kernel_rfl) (by kernel_rfl) (fun _ _ _ h => h) (by assumption) (by kernel_rfl) ?_)
                      (refine AnyS.offD (i := 11) 95 (by kernel_rfl) rfl rfl (by kernel_rfl) (by kernel_rfl) (by kernel_rfl) (fun _ _ _ h => h) (by assumption) (by kernel_rfl) ?_)
                      (refine AnyS.offD (i := 12) 96 (by kernel_rfl) rfl rfl (by kernel_rfl) (by kernel_rfl) (by kernel_rfl) (fun _ _ _ h => h) (by assumption) (by kernel_rfl) ?_)
                      (refine AnyS.offD (i := 13) 97 (by kernel_rfl) rfl rfl (by kernel_rfl) (by kernel_rfl) (by kernel_rfl) (fun _ _ _ h => h) (by assumption) (by kernel_rfl) ?_)
                      (refine AnyS.takeD (i := 14) 98 (v := ?_) (by kernel_rfl) rfl rfl (by kernel_rfl) (by kernel_rfl) (by kernel_rfl) (fun _ _ _ h => h) (by assumption) ⟨⟨by kernel_rfl, ?_⟩, fun _ => rfl⟩ ?_; rotate_left; (rintro w' ⟨hs1, hs2, hs3, hs4, hs5⟩; go_simp; rfl))
                      (refine AnyS.takeD (i := 15) 12 (v := ?_) (by kernel_rfl) rfl rfl (by kernel_rfl) (by kernel_rfl) (by kernel_rfl) (fun _ _ _ h => h) (by assumption) ⟨⟨by kernel_rfl, ?_⟩, fun _ => rfl⟩ ?_; rotate_left; (rintro w' ⟨hs1, hs2, hs3, hs4, hs5⟩; go_simp; rfl))
                      refine AnyS.done (by kernel_rfl) ?_ _
                      clear hSd hcF c0 c1 cx cy
                      go_wp2_with fail
                      go_roundw
                      case rel => exact ⟨m + 1, by go_num, by omega, by rw [hsn.out, ← HSO.out]; rfl, Bl.drew HB.out, HC.out.trans (Chg.drew _ _), HBU.out.drew⟩
                      case measure => simp [intOf]; omega
                    | false =>
                      (refine AnyS.takeD (i := 0) 84 (v := ?_) (by kernel_rfl) rfl rfl (by kernel_rfl) (by kernel_rfl) (by kernel_rfl) (fun _ _ _ h => h) (by assumption) ⟨⟨by kernel_rfl, ?_⟩, fun _ => rfl⟩ ?_; rotate_left; (rintro w' ⟨hs1, hs2, hs3, hs4, hs5⟩; go_simp; rfl))
                      (refine AnyS.takeD (i := 1) 85 (v := ?_) (by kernel_rfl) rfl rfl (by kernel_rfl) (by kernel_rfl) (by kernel_rfl) (fun _ _ _ h => h) (by assumption) ⟨⟨by kernel_rfl, ?_⟩, fun _ => rfl⟩ ?_; rotate_left; (rintro w' ⟨hs1, hs2, hs3, hs4, hs5⟩; go_simp; rfl))
                      (refine AnyS.takeD (i := 2) 86 (v := ?_) (by kernel_rfl) rfl rfl (by kernel_rfl) (by kernel_rfl) (by kernel_rfl) (fun _ _ _ h => h) (by assumption) ⟨⟨by kernel_rfl, ?_⟩, fun _ => rfl⟩ ?_; rotate_left; (rintro w' ⟨hs1, hs2, hs3, hs4, hs5⟩; go_simp; rfl))
                      (refine AnyS.takeD (i := 3) 87 (v := ?_) (by kernel_rfl) rfl rfl (by kernel_rfl) (by kernel_rfl) (by kernel_rfl) (fun _ _ _ h => h) (by assumption) ⟨⟨by kernel_rfl, ?_⟩, fun _ => rfl⟩ ?_; rotate_left; (rintro w' ⟨hs1, hs2, hs3, hs4, hs5⟩; go_simp; rfl))
                      (refine AnyS.takeD (i := 4) 88 (v := ?_) (by kernel_rfl) rfl rfl (by kernel_rfl) (by kernel_rfl) (by kernel_rfl) (fun _ _ _ h => h) (by assumption) ⟨⟨by kernel_rfl, ?_⟩, fun _ => rfl⟩ ?_; rotate_left; (rintro w' ⟨hs1, hs2, hs3, hs4, hs5⟩; go_simp; rfl))
                      (refine AnyS.takeD (i := 5) 89 (v := ?_) (by kernel_rfl) rfl rfl (by kernel_rfl) (by kernel_rfl) (by kernel_rfl) (fun _ _ _ h => h) (by assumption) ⟨⟨by kernel_rfl, ?_⟩, fun _ => rfl⟩ ?_; rotate_left; (rintro w' ⟨hs1, hs2, hs3, hs4, hs5⟩; go_simp; rfl))
                      (refine AnyS.takeD (i := 6) 90 (v := ?_) (by kernel_rfl) rfl rfl (by kernel_rfl) (by kernel_rfl) (by kernel_rfl) (fun _ _ _ h => h) (by assumption) ⟨⟨by kernel_rfl, ?_⟩, fun _ => rfl⟩ ?_; rotate_left; (rintro w' ⟨hs1, hs2, hs3, hs4, hs5⟩; go_simp; rfl))
                      (refine AnyS.takeD (i := 7) 91 (v := ?_) (by kernel_rfl) rfl rfl (by kernel_rfl) (by kernel_rfl) (by kernel_rfl) (fun _ _ _ h => h) (by assumption) ⟨⟨by kernel_rfl, ?_⟩, fun _ => rfl⟩ ?_; rotate_left; (rintro w' ⟨hs1, hs2, hs3, hs4, hs5⟩; go_simp; rfl))
                      (refine AnyS.takeD (i := 11) 95 (v := ?_) (by kernel_rfl) rfl rfl (by kernel_rfl) (by kernel_rfl) (by kernel_rfl) (fun _ _ _ h => h) (by assumption) ⟨⟨by kernel_rfl, ?_⟩, fun _ => rfl⟩ ?_; rotate_left; (rintro w' ⟨hs1, hs2, hs3, hs4, hs5⟩; go_simp; rfl))
                      refine AnyS.enterD (i := 8) 92 (R := fun x w'' => x = .int .i64 ((q2 + offs F q1 : Nat) : Int) ∧ Below wr.drew.heap.size wr.drew w'') (by kernel_rfl) rfl rfl (by kernel_rfl) (fun c hc => by cases hc) (by go_simp) ((index_any _ F q1 q2 wr.drew (HF.out _ (Bl.le (Bl.drew HB.out))) HS.out HQ.out.1 HQ.out.2).mono ?_) ?_
                      · rintro e w' ⟨rfl, hb⟩
                        exact ⟨_, rfl, rfl, hb⟩
                      rintro _ w2 ⟨rfl, hb2⟩
                      have hb2' : Below wr.heap.size wr w2 := Bl.call (Bl.drew (Below.refl _ _)) hb2
                      have hixe : q2 + offs F q1 = ix := HIX.out.symm
                      rw [hixe]
                      have h3 := (HBF.out.below hb2').cell
                      rw [HFC.out] at h3
                      have hS2 : (fun w'' : World => (∀ j, w''.cell? ⟨bF, j, none⟩ = (#[.string F.name, .int .i64 mo, .int .i64 pa, .slice Ab nb cb, .int .i64 ar, .int .i64 F.result.kind, .int .i64 F.result.id, .slice Ar F.result.args.length kr, .slice Al F.locals.length kl, .slice Ak F.blocks.length kk, .slice At nt ct] : Array Value)[j]?) ∧ w''.cell? (aq.add (m * 2)) = some (.int .i64 (q1 : Nat)) ∧ w''.cell? ⟨(aq.add (m * 2)).block, (aq.add (m * 2)).off + 1, none⟩ = some (.int .i64 (q2 : Nat)) ∧ w''.cell? (ab.add ix) = some (.slice (some asp) F.locals.length ks) ∧ w''.cell? (asp.add v) = some (.bool sb)) w2 := ⟨h3, Bl.le hb2' _ _ c0, Bl.le hb2' _ _ c1, Bl.le hb2' _ _ cx, Bl.le hb2' _ _ cy⟩
                      refine ⟨hS2, ?_⟩
                      have HB2 := Lib.hid (Bl.call HB.out hb2')
                      have HC2 := Lib.hid (HC.out.call hb2')
                      have HBU2 := Lib.hid (HBU.out.below hb2')
                      clear hb2 hb2' hSd HB HC HBF HBU HX c0 c1 cx cy hcF hixe h3
                      (refine AnyS.takeD (i := 9) 93 (v := ?_) (by kernel_rfl) rfl rfl (by kernel_rfl) (by kernel_rfl) (by kernel_rfl) (fun _ _ _ h => h) (by assumption) ⟨⟨by kernel_rfl, ?_⟩, fun _ => rfl⟩ ?_; rotate_left; (rintro w' ⟨hs1, hs2, hs3, hs4, hs5⟩; go_simp; rfl))
                      (refine AnyS.takeD (i := 10) 94 (v := ?_) (by kernel_rfl) rfl rfl (by kernel_rfl) (by kernel_rfl) (by kernel_rfl) (fun _ _ _ h => h) (by assumption) ⟨⟨by kernel_rfl, ?_⟩, fun _ => rfl⟩ ?_; rotate_left; (rintro w' ⟨hs1, hs2, hs3, hs4, hs5⟩; go_simp; rfl))
                      (refine AnyS.takeD (i := 12) 96 (v := ?_) (by kernel_rfl) rfl rfl (by kernel_rfl) (by kernel_rfl) (by kernel_rfl) (fun _ _ _ h => h) (by assumption) ⟨⟨by kernel_rfl, ?_⟩, fun _ => rfl⟩ ?_; rotate_left; (rintro w' ⟨hs1, hs2, hs3, hs4, hs5⟩; go_simp; rfl))
                      (refine AnyS.takeD (i := 13) 97 (v := ?_) (by kernel_rfl) rfl rfl (by kernel_rfl) (by kernel_rfl) (by kernel_rfl) (fun _ _ _ h => h) (by assumption) ⟨⟨by kernel_rfl, ?_⟩, fun _ => rfl⟩ ?_; rotate_left; (rintro w' ⟨hs1, hs2, hs3, hs4, hs5⟩; go_simp; rfl))
                      (refine AnyS.takeD (i := 14) 98 (v := ?_) (by kernel_rfl) rfl rfl (by kernel_rfl) (by kernel_rfl) (by kernel_rfl) (fun _ _ _ h => h) (by assumption) ⟨⟨by kernel_rfl, ?_⟩, fun _ => rfl⟩ ?_; rotate_left; (rintro w' ⟨hs1, hs2, hs3, hs4, hs5⟩; go_simp; rfl))
                      (refine AnyS.takeD (i := 15) 12 (v := ?_) (by kernel_rfl) rfl rfl (by kernel_rfl) (by kernel_rfl) (by kernel_rfl) (fun _ _ _ h => h) (by assumption) ⟨⟨by kernel_rfl, ?_⟩, fun _ => rfl⟩ ?_; rotate_left; (rintro w' ⟨hs1, hs2, hs3, hs4, hs5⟩; go_simp; rfl))
                      refine AnyS.done (by kernel_rfl) ?_ _
                      clear hS2
                      go_wp2_with fail
                      go_roundw
                      case rel => exact ⟨m + 1, by go_num, by omega, by rw [hsn.out, ← HSO.out, HSB.out]; simp, HB2, HC2, HBU2⟩
                      case measure => simp [intOf]; omega
                  · obtain rfl : m = l.length := by omega
                    have hpk : k < (pts F).length := by rw [← HNP.out]; exact hkn
                    obtain ⟨aa, va2, rfl, ca, hva2⟩ := (RRow.mono monoSets (Chg.le' HC.out) HXA10.out).set_at k (by rw [after_len]; exact hpk)
                    obtain ⟨ab, vb2, rfl, cb2, hvb2⟩ := (RRow.mono monoSets (Chg.le' HC.out) HXB10.out).set_at k (by rw [before_len]; exact hpk)
                    obtain ⟨Asa, ka, rfl, _, _, sa3⟩ := hva2
                    obtain ⟨Asb, kb, rfl, _, _, sb3⟩ := hvb2
                    have hla : ((after F).getD k []).length = F.locals.length := after_rows _ (by rw [List.getD_eq_getElem?_getD, List.getElem?_eq_getElem (by rw [after_len]; exact hpk)]; exact List.getElem_mem _)
                    have hlb : ((before F).getD k []).length = F.locals.length := before_rows _ (by rw [List.getD_eq_getElem?_getD, List.getElem?_eq_getElem (by rw [before_len]; exact hpk)]; exact List.getElem_mem _)
                    obtain ⟨asa, rfl, cya⟩ := sa3.bool_at' v (by rw [hla]; exact hvn)
                    obtain ⟨asb, rfl, cyb⟩ := sb3.bool_at' v (by rw [hlb]; exact hvn)
                    rw [hla] at ca
                    rw [hlb] at cb2
                    obtain ⟨sa, hsa⟩ : ∃ sa, sa = ((after F).getD k []).getD v false := ⟨_, rfl⟩
                    obtain ⟨sb, hsb⟩ : ∃ sb, sb = ((before F).getD k []).getD v false := ⟨_, rfl⟩
                    rw [← hsa] at cya
                    rw [← hsb] at cyb
                    rw [after_at hpk hvn, HPE.out] at hsa
                    rw [before_at hpk hvn, HPE.out, liveB_eq, ← hsa, ← HUS.out] at hsb
                    have hsk : someK F l v l.length = sa := by rw [HL.out, someK_all, hsa]
                    rw [hsk]
                    obtain ⟨su, hsu⟩ : ∃ su, su = us.used v := ⟨_, rfl⟩
                    obtain ⟨sd, hsd⟩ : ∃ sd, sd = us.defd v := ⟨_, rfl⟩
                    rw [← hsu, ← hsd] at hsb
                    have HSU := Lib.hid hsu
                    have HSD := Lib.hid hsd
                    have hcX := HX.out.cell
                    have hns : (sa != sa) = false := by simp
                    clear hsa hsk hsu hsd hla hlb sa3 sb3 hpk
                    go_upto_region 24 with fail
                    refine region_anyS (S := (fun w'' : World => (∀ j, w''.cell? ⟨bu, j, none⟩ = (#[.slice A0 us.copies.length k0, .slice A1 us.moves.length k1, .slice A2 us.shares.length k2, .slice A3 us.lends.length k3, .slice A4 us.defs.length k4] : Array Value)[j]?) ∧ w''.cell? (aa.add k) = some (.slice (some asa) F.locals.length ka) ∧ w''.cell? (ab.add k) = some (.slice (some asb) F.locals.length kb) ∧ w''.cell? (asa.add v) = some (.bool sa) ∧ w''.cell? (asb.add v) = some (.bool sb))) ?_
                    have hSd : (fun w'' : World => (∀ j, w''.cell? ⟨bu, j, none⟩ = (#[.slice A0 us.copies.length k0, .slice A1 us.moves.length k1, .slice A2 us.shares.length k2, .slice A3 us.lends.length k3, .slice A4 us.defs.length k4] : Array Value)[j]?) ∧ w''.cell? (aa.add k) = some (.slice (some asa) F.locals.length ka) ∧ w''.cell? (ab.add k) = some (.slice (some asb) F.locals.length kb) ∧ w''.cell? (asa.add v) = some (.bool sa) ∧ w''.cell? (asb.add v) = some (.bool sb)) wr.drew := ⟨hcX, ca, cb2, cya, cyb⟩
                    (refine AnyS.takeD (i := 0) 99 (v := ?_) (by kernel_rfl) rfl rfl (by kernel_rfl) (by kernel_rfl) (by kernel_rfl) (fun _ _ _ h => h) (by assumption) ⟨⟨by kernel_rfl, ?_⟩, fun _ => rfl⟩ ?_; rotate_left; (rintro w' ⟨hs1, hs2, hs3, hs4, hs5⟩; go_simp; rfl))
                    (refine AnyS.takeD (i := 1) 100 (v := ?_) (by kernel_rfl) rfl rfl (by kernel_rfl) (by kernel_rfl) (by kernel_rfl) (fun _ _ _ h => h) (by assumption) ⟨⟨by kernel_rfl, ?_⟩, fun _ => rfl⟩ ?_; rotate_left; (rintro w' ⟨hs1, hs2, hs3, hs4, hs5⟩; go_simp; rfl))
                    (refine AnyS.takeD (i := 2) 101 (v := ?_) (by kernel_rfl) rfl rfl (by kernel_rfl) (by kernel_rfl) (by kernel_rfl) (fun _ _ _ h => h) (by assumption) ⟨⟨by kernel_rfl, ?_⟩, fun _ => rfl⟩ ?_; rotate_left; (rintro w' ⟨hs1, hs2, hs3, hs4, hs5⟩; go_simp; rfl))
                    (refine AnyS.takeD (i := 3) 102 (v := ?_) (by kernel_rfl) rfl rfl (by kernel_rfl) (by kernel_rfl) (by kernel_rfl) (fun _ _ _ h => h) (by assumption) ⟨⟨by kernel_rfl, ?_⟩, fun _ => rfl⟩ ?_; rotate_left; (rintro w' ⟨hs1, hs2, hs3, hs4, hs5⟩; go_simp; rfl))
                    (refine AnyS.takeD (i := 4) 103 (v := ?_) (by kernel_rfl) rfl rfl (by kernel_rfl) (by kernel_rfl) (by kernel_rfl) (fun _ _ _ h => h) (by assumption) ⟨⟨by kernel_rfl, ?_⟩, fun _ => rfl⟩ ?_; rotate_left; (rintro w' ⟨hs1, hs2, hs3, hs4, hs5⟩; go_simp; rfl))
                    (refine AnyS.takeD (i := 5) 104 (v := ?_) (by kernel_rfl) rfl rfl (by kernel_rfl) (by kernel_rfl) (by kernel_rfl) (fun _ _ _ h => h) (by assumption) ⟨⟨by kernel_rfl, ?_⟩, fun _ => rfl⟩ ?_; rotate_left; (rintro w' ⟨hs1, hs2, hs3, hs4, hs5⟩; go_simp; rfl))
                    (refine AnyS.takeD (i := 6) 105 (v := ?_) (by kernel_rfl) rfl rfl (by kernel_rfl) (by kernel_rfl) (by kernel_rfl) (fun _ _ _ h => h) (by assumption) ⟨⟨by kernel_rfl, ?_⟩, fun _ => rfl⟩ ?_; rotate_left; (rintro w' ⟨hs1, hs2, hs3, hs4, hs5⟩; go_simp; rfl))
                    (refine AnyS.takeD (i := 7) 106 (v := ?_) (by kernel_rfl) rfl rfl (by kernel_rfl) (by kernel_rfl) (by kernel_rfl) (fun _ _ _ h => h) (by assumption) ⟨⟨by kernel_rfl, ?_⟩, fun _ => rfl⟩ ?_; rotate_left; (rintro w' ⟨hs1, hs2, hs3, hs4, hs5⟩; go_simp; rfl))
                    (refine AnyS.takeD (i := 8) 107 (v := .bool false) (by kernel_rfl) rfl rfl (by kernel_rfl) (by kernel_rfl) (by kernel_rfl) (fun _ _ _ h => h) (by assumption) ⟨⟨by kernel_rfl, ?_⟩, fun _ => rfl⟩ ?_; focus (rintro w' ⟨hs1, hs2, hs3, hs4, hs5⟩; go_simp; try (simp; done)))
                    (refine AnyS.takeD (i := 9) 108 (v := ?_) (by kernel_rfl) rfl rfl (by kernel_rfl) (by kernel_rfl) (by kernel_rfl) (fun _ _ _ h => h) (by assumption) ⟨⟨by kernel_rfl, ?_⟩, fun _ => rfl⟩ ?_; rotate_left; (rintro w' ⟨hs1, hs2, hs3, hs4, hs5⟩; go_simp; rfl))
                    (refine AnyS.takeD (i := 10) 109 (v := ?_) (by kernel_rfl) rfl rfl (by kernel_rfl) (by kernel_rfl) (by kernel_rfl) (fun _ _ _ h => h) (by assumption) ⟨⟨by kernel_rfl, ?_⟩, fun _ => rfl⟩ ?_; rotate_left; (rintro w' ⟨hs1, hs2, hs3, hs4, hs5⟩; go_simp; rfl))
                    (refine AnyS.takeD (i := 11) 110 (v := ?_) (by kernel_rfl) rfl rfl (by kernel_rfl) (by kernel_rfl) (by kernel_rfl) (fun _ _ _ h => h) (by assumption) ⟨⟨by kernel_rfl, ?_⟩, fun _ => rfl⟩ ?_; rotate_left; (rintro w' ⟨hs1, hs2, hs3, hs4, hs5⟩; go_simp; rfl))
                    (refine AnyS.takeD (i := 12) 111 (v := ?_) (by kernel_rfl) rfl rfl (by kernel_rfl) (by kernel_rfl) (by kernel_rfl) (fun _ _ _ h => h) (by assumption) ⟨⟨by kernel_rfl, ?_⟩, fun _ => rfl⟩ ?_; rotate_left; (rintro w' ⟨hs1, hs2, hs3, hs4, hs5⟩; go_simp; rfl))
                    (refine AnyS.takeD (i := 13) 112 (v := ?_) (by kernel_rfl) rfl rfl (by kernel_rfl) (by kernel_rfl) (by kernel_rfl) (fun _ _ _ h => h) (by assumption) ⟨⟨by kernel_rfl, ?_⟩, fun _ => rfl⟩ ?_; rotate_left; (rintro w' ⟨hs1, hs2, hs3, hs4, hs5⟩; go_simp; rfl))
                    (refine AnyS.takeD (i := 14) 113 (v := ?_) (by kernel_rfl) rfl rfl (by kernel_rfl) (by kernel_rfl) (by kernel_rfl) (fun _ _ _ h => h) (by assumption) ⟨⟨by kernel_rfl, ?_⟩, fun _ => rfl⟩ ?_; rotate_left; (rintro w' ⟨hs1, hs2, hs3, hs4, hs5⟩; go_simp; rfl))
                    (refine AnyS.takeD (i := 15) 114 (v := ?_) (by kernel_rfl) rfl rfl (by kernel_rfl) (by kernel_rfl) (by kernel_rfl) (fun _ _ _ h => h) (by assumption) ⟨⟨by kernel_rfl, ?_⟩, fun _ => rfl⟩ ?_; rotate_left; (rintro w' ⟨hs1, hs2, hs3, hs4, hs5⟩; go_simp; rfl))
                    (refine AnyS.takeD (i := 16) 115 (v := ?_) (by kernel_rfl) rfl rfl (by kernel_rfl) (by kernel_rfl) (by kernel_rfl) (fun _ _ _ h => h) (by assumption) ⟨⟨by kernel_rfl, ?_⟩, fun _ => rfl⟩ ?_; rotate_left; (rintro w' ⟨hs1, hs2, hs3, hs4, hs5⟩; go_simp; rfl))
                    (refine AnyS.takeD (i := 17) 116 (v := ?_) (by kernel_rfl) rfl rfl (by kernel_rfl) (by kernel_rfl) (by kernel_rfl) (fun _ _ _ h => h) (by assumption) ⟨⟨by kernel_rfl, ?_⟩, fun _ => rfl⟩ ?_; rotate_left; (rintro w' ⟨hs1, hs2, hs3, hs4, hs5⟩; go_simp; rfl))
                    (refine AnyS.takeD (i := 18) 117 (v := ?_) (by kernel_rfl) rfl rfl (by kernel_rfl) (by kernel_rfl) (by kernel_rfl) (fun _ _ _ h => h) (by assumption) ⟨⟨by kernel_rfl, ?_⟩, fun _ => rfl⟩ ?_; rotate_left; (rintro w' ⟨hs1, hs2, hs3, hs4, hs5⟩; go_simp; rfl))
                    refine AnyS.act (by simp only [Act.put, List.setIfInBounds_toArray, List.set_cons_succ, List.set_cons_zero]; rfl) ?_
                    refine AnyS.enterD (i := 19) 118 (R := fun x w'' => x = .bool (us.used v) ∧ Below wr.drew.heap.size wr.drew w'') (by kernel_rfl) rfl rfl (by kernel_rfl) (fun c hc => by cases hc) (by go_simp) ((used_any _ us v wr.drew (HU10.out.mono (HC.out.trans (Chg.drew _ _)).le')).mono ?_) ?_
                    · rintro e w' ⟨rfl, hb⟩
                      exact ⟨_, rfl, rfl, hb⟩
                    rintro _ w2 ⟨rfl, hb2⟩
                    have hb2' : Below wr.heap.size wr w2 := Bl.call (Bl.drew (Below.refl _ _)) hb2
                    rw [← HSU.out]
                    have hX2 := (HX.out.below hb2').cell
                    have ca2 := Bl.le hb2' _ _ ca
                    have cb3 := Bl.le hb2' _ _ cb2
                    have cya2 := Bl.le hb2' _ _ cya
                    have cyb2 := Bl.le hb2' _ _ cyb
                    have hS2 : (fun w'' : World => (∀ j, w''.cell? ⟨bu, j, none⟩ = (#[.slice A0 us.copies.length k0, .slice A1 us.moves.length k1, .slice A2 us.shares.length k2, .slice A3 us.lends.length k3, .slice A4 us.defs.length k4] : Array Value)[j]?) ∧ w''.cell? (aa.add k) = some (.slice (some asa) F.locals.length ka) ∧ w''.cell? (ab.add k) = some (.slice (some asb) F.locals.length kb) ∧ w''.cell? (asa.add v) = some (.bool sa) ∧ w''.cell? (asb.add v) = some (.bool sb)) w2 := ⟨hX2, ca2, cb3, cya2, cyb2⟩
                    refine ⟨hS2, ?_⟩
                    have HB2 := Lib.hid (Bl.call HB.out hb2')
                    have HC2 := Lib.hid (HC.out.call hb2')
                    have HBU2 := Lib.hid (HBU.out.below hb2')
                    have HX2 := Lib.hid (HX.out.below hb2')
                    clear hb2 hb2' hSd HB HC HBU HX HBF hcX ca cb2 cya cyb
                    cases su with
                    | true =>
                      obtain rfl : sb = true := by simpa using hsb
                      clear hsb
                      (refine AnyS.takeD (i := 20) 119 (v := ?_) (by kernel_rfl) rfl rfl (by kernel_rfl) (by kernel_rfl) (by kernel_rfl) (fun _ _ _ h => h) (by assumption) ⟨⟨by kernel_rfl, ?_⟩, fun _ => rfl⟩ ?_; rotate_left; (rintro w' ⟨hs1, hs2, hs3, hs4, hs5⟩; go_simp; rfl))
                      (refine AnyS.offD (i := 21) 120 (by kernel_rfl) rfl rfl (by kernel_rfl) (by kernel_rfl) (by kernel_rfl) (fun _ _ _ h => h) (by assumption) (by kernel_rfl) ?_)
                      (refine AnyS.offD (i := 22) 121 (by kernel_rfl) rfl rfl (by kernel_rfl) (by kernel_rfl) (by kernel_rfl) (fun _ _ _ h => h) (by assumption) (by kernel_rfl) ?_)
                      (refine AnyS.offD (i := 23) 122 (by kernel_rfl) rfl rfl (by kernel_rfl) (by kernel_rfl) (by kernel_rfl) (fun _ _ _ h => h) (by assumption) (by kernel_rfl) ?_)
                      (refine AnyS.offD (i := 24) 123 (by kernel_rfl) rfl rfl (by kernel_rfl) (by kernel_rfl) (by kernel_rfl) (fun _ _ _ h => h) (by assumption) (by kernel_rfl) ?_)
                      (refine AnyS.offD (i := 25) 124 (by kernel_rfl) rfl rfl (by kernel_rfl) (by kernel_rfl) (by kernel_rfl) (fun _ _ _ h => h) (by assumption) (by kernel_rfl) ?_)
                      (refine AnyS.offD (i := 26) 125 (by kernel_rfl) rfl rfl (by kernel_rfl) (by kernel_rfl) (by kernel_rfl) (fun _ _ _ h => h) (by assumption) (by kernel_rfl) ?_)
                      (refine AnyS.offD (i := 27) 126 (by kernel_rfl) rfl rfl (by kernel_rfl) (by kernel_rfl) (by kernel_rfl) (fun _ _ _ h => h) (by assumption) (by kernel_rfl) ?_)
                      (refine AnyS.offD (i := 28) 127 (by kernel_rfl) rfl rfl (by kernel_rfl) (by kernel_rfl) (by kernel_rfl) (fun _ _ _ h => h) (by assumption) (by kernel_rfl) ?_)
                      (refine AnyS.offD (i := 29) 128 (by kernel_rfl) rfl rfl (by kernel_rfl) (by kernel_rfl) (by kernel_rfl) (fun _ _ _ h => h) (by assumption) (by kernel_rfl) ?_)
                      (refine AnyS.offD (i := 30) 129 (by kernel_rfl) rfl rfl (by kernel_rfl) (by kernel_rfl) (by kernel_rfl) (fun _ _ _ h => h) (by assumption) (by kernel_rfl) ?_)
                      (refine AnyS.offD (i := 31) 130 (by kernel_rfl) rfl rfl (by kernel_rfl) (by kernel_rfl) (by kernel_rfl) (fun _ _ _ h => h) (by assumption) (by kernel_rfl) ?_)
                      (refine AnyS.offD (i := 32) 131 (by kernel_rfl) rfl rfl (by kernel_rfl) (by kernel_rfl) (by kernel_rfl) (fun _ _ _ h => h) (by assumption) (by kernel_rfl) ?_)
                      (refine AnyS.offD (i := 33) 132 (by kernel_rfl) rfl rfl (by kernel_rfl) (by kernel_rfl) (by kernel_rfl) (fun _ _ _ h => h) (by assumption) (by kernel_rfl) ?_)
                      (refine AnyS.offD (i := 34) 133 (by kernel_rfl) rfl rfl (by kernel_rfl) (by kernel_rfl) (by kernel_rfl) (fun _ _ _ h => h) (by assumption) (by kernel_rfl) ?_)
                      (refine AnyS.takeD (i := 35) 134 (v := ?_) (by kernel_rfl) rfl rfl (by kernel_rfl) (by kernel_rfl) (by kernel_rfl) (fun _ _ _ h => h) (by assumption) ⟨⟨by kernel_rfl, ?_⟩, fun _ => rfl⟩ ?_; rotate_left; (rintro w' ⟨hs1, hs2, hs3, hs4, hs5⟩; go_simp; rfl))
                      (refine AnyS.takeD (i := 36) 135 (v := .bool false) (by kernel_rfl) rfl rfl (by kernel_rfl) (by kernel_rfl) (by kernel_rfl) (fun _ _ _ h => h) (by assumption) ⟨⟨by kernel_rfl, fun w' _ => by kernel_rfl⟩, fun _ => rfl⟩ ?_)
                      (refine AnyS.takeD (i := 37) 136 (v := ?_) (by kernel_rfl) rfl rfl (by kernel_rfl) (by kernel_rfl) (by kernel_rfl) (fun _ _ _ h => h) (by assumption) ⟨⟨by kernel_rfl, ?_⟩, fun _ => rfl⟩ ?_; rotate_left; (rintro w' ⟨hs1, hs2, hs3, hs4, hs5⟩; go_simp; rfl))
                      refine AnyS.act (by simp only [Act.put, List.setIfInBounds_toArray, List.set_cons_succ, List.set_cons_zero]; rfl) ?_
                      refine AnyS.done (by kernel_rfl) ?_ _
                      clear hS2 hX2 ca2 cb3 cya2 cyb2
                      go_wp2_with fail
                      go_roundw
                      case rel => exact ⟨v + 1, by go_num, by omega, HB2, HC2, HBU2⟩
                      case measure => simp [intOf]; omega
                    | false =>
                      (refine AnyS.takeD (i := 20) 119 (v := ?_) (by kernel_rfl) rfl rfl (by kernel_rfl) (by kernel_rfl) (by kernel_rfl) (fun _ _ _ h => h) (by assumption) ⟨⟨by kernel_rfl, ?_⟩, fun _ => rfl⟩ ?_; rotate_left; (rintro w' ⟨hs1, hs2, hs3, hs4, hs5⟩; go_simp; rfl))
                      (refine AnyS.takeD (i := 21) 120 (v := ?_) (by kernel_rfl) rfl rfl (by kernel_rfl) (by kernel_rfl) (by kernel_rfl) (fun _ _ _ h => h) (by assumption) ⟨⟨by kernel_rfl, ?_⟩, fun _ => rfl⟩ ?_; rotate_left; (rintro w' ⟨hs1, hs2, hs3, hs4, hs5⟩; go_simp; rfl))
                      (refine AnyS.takeD (i := 22) 121 (v := ?_) (by kernel_rfl) rfl rfl (by kernel_rfl) (by kernel_rfl) (by kernel_rfl) (fun _ _ _ h => h) (by assumption) ⟨⟨by kernel_rfl, ?_⟩, fun _ => rfl⟩ ?_; rotate_left; (rintro w' ⟨hs1, hs2, hs3, hs4, hs5⟩; go_simp; rfl))
                      (refine AnyS.takeD (i := 23) 122 (v := ?_) (by kernel_rfl) rfl rfl (by kernel_rfl) (by kernel_rfl) (by kernel_rfl) (fun _ _ _ h => h) (by assumption) ⟨⟨by kernel_rfl, ?_⟩, fun _ => rfl⟩ ?_; rotate_left; (rintro w' ⟨hs1, hs2, hs3, hs4, hs5⟩; go_simp; rfl))
                      refine AnyS.enterD (i := 24) 123 (R := fun x w'' => x = .bool (decide ((v : Int) ∈ us.defs)) ∧ w'' = w2) (by kernel_rfl) rfl rfl (by kernel_rfl) (fun c hc => by cases hc) (by go_simp) ((has_any _ us.defs v w2 (HU10.out.mono HC2.out.le').defs').mono ?_) ?_
                      · rintro e w' ⟨rfl, hb⟩
                        exact ⟨_, rfl, rfl, hb⟩
                      rintro _ w3 ⟨rfl, e3⟩
                      have hb3 : Below w2.heap.size w2 w3 := by rw [e3]; exact Below.refl _ _
                      have hsd' : decide ((v : Int) ∈ us.defs) = sd := HSD.out.symm
                      rw [hsd']
                      have hS3 : (fun w'' : World => (∀ j, w''.cell? ⟨bu, j, none⟩ = (#[.slice A0 us.copies.length k0, .slice A1 us.moves.length k1, .slice A2 us.shares.length k2, .slice A3 us.lends.length k3, .slice A4 us.defs.length k4] : Array Value)[j]?) ∧ w''.cell? (aa.add k) = some (.slice (some asa) F.locals.length ka) ∧ w''.cell? (ab.add k) = some (.slice (some asb) F.locals.length kb) ∧ w''.cell? (asa.add v) = some (.bool sa) ∧ w''.cell? (asb.add v) = some (.bool sb)) w3 := ⟨(HX2.out.below hb3).cell, Bl.le hb3 _ _ ca2, Bl.le hb3 _ _ cb3, Bl.le hb3 _ _ cya2, Bl.le hb3 _ _ cyb2⟩
                      refine ⟨hS3, ?_⟩
                      have HB3 := Lib.hid (Bl.call HB2.out hb3)
                      have HC3 := Lib.hid (HC2.out.call hb3)
                      have HBU3 := Lib.hid (HBU2.out.below hb3)
                      clear hb3 e3 hS2 HB2 HC2 HBU2 HX2 hX2 ca2 cb3 cya2 cyb2 hsd'
                      cases sd with
                      | true =>
                        obtain rfl : sb = false := by simpa using hsb
                        clear hsb
                        (refine AnyS.takeD (i := 25) 124 (v := ?_) (by kernel_rfl) rfl rfl (by kernel_rfl) (by kernel_rfl) (by kernel_rfl) (fun _ _ _ h => h) (by assumption) ⟨⟨by kernel_rfl, ?_⟩, fun _ => rfl⟩ ?_; rotate_left; (rintro w' ⟨hs1, hs2, hs3, hs4, hs5⟩; go_simp; rfl))
                        (refine AnyS.takeD (i := 26) 125 (v := ?_) (by kernel_rfl) rfl rfl (by kernel_rfl) (by kernel_rfl) (by kernel_rfl) (fun _ _ _ h => h) (by assumption) ⟨⟨by kernel_rfl, ?_⟩, fun _ => rfl⟩ ?_; rotate_left; (rintro w' ⟨hs1, hs2, hs3, hs4, hs5⟩; go_simp; rfl))
                        (refine AnyS.offD (i := 27) 126 (by kernel_rfl) rfl rfl (by kernel_rfl) (by kernel_rfl) (by kernel_rfl) (fun _ _ _ h => h) (by assumption) (by kernel_rfl) ?_)
                        (refine AnyS.offD (i := 28) 127 (by kernel_rfl) rfl rfl (by kernel_rfl) (by kernel_rfl) (by kernel_rfl) (fun _ _ _ h => h) (by assumption) (by kernel_rfl) ?_)
                        (refine AnyS.offD (i := 29) 128 (by kernel_rfl) rfl rfl (by kernel_rfl) (by kernel_rfl) (by kernel_rfl) (fun _ _ _ h => h) (by assumption) (by kernel_rfl) ?_)
                        (refine AnyS.offD (i := 30) 129 (by kernel_rfl) rfl rfl (by kernel_rfl) (by kernel_rfl) (by kernel_rfl) (fun _ _ _ h => h) (by assumption) (by kernel_rfl) ?_)
                        (refine AnyS.offD (i := 31) 130 (by kernel_rfl) rfl rfl (by kernel_rfl) (by kernel_rfl) (by kernel_rfl) (fun _ _ _ h => h) (by assumption) (by kernel_rfl) ?_)
                        (refine AnyS.offD (i := 32) 131 (by kernel_rfl) rfl rfl (by kernel_rfl) (by kernel_rfl) (by kernel_rfl) (fun _ _ _ h => h) (by assumption) (by kernel_rfl) ?_)
                        (refine AnyS.offD (i := 33) 132 (by kernel_rfl) rfl rfl (by kernel_rfl) (by kernel_rfl) (by kernel_rfl) (fun _ _ _ h => h) (by assumption) (by kernel_rfl) ?_)
                        (refine AnyS.takeD (i := 34) 133 (v := ?_) (by kernel_rfl) rfl rfl (by kernel_rfl) (by kernel_rfl) (by kernel_rfl) (fun _ _ _ h => h) (by assumption) ⟨⟨by kernel_rfl, ?_⟩, fun _ => rfl⟩ ?_; rotate_left; (rintro w' ⟨hs1, hs2, hs3, hs4, hs5⟩; go_simp; rfl))
                        (refine AnyS.takeD (i := 35) 134 (v := ?_) (by kernel_rfl) rfl rfl (by kernel_rfl) (by kernel_rfl) (by kernel_rfl) (fun _ _ _ h => h) (by assumption) ⟨⟨by kernel_rfl, ?_⟩, fun _ => rfl⟩ ?_; rotate_left; (rintro w' ⟨hs1, hs2, hs3, hs4, hs5⟩; go_simp; rfl))
                        (refine AnyS.takeD (i := 36) 135 (v := .bool false) (by kernel_rfl) rfl rfl (by kernel_rfl) (by kernel_rfl) (by kernel_rfl) (fun _ _ _ h => h) (by assumption) ⟨⟨by kernel_rfl, fun w' _ => by kernel_rfl⟩, fun _ => rfl⟩ ?_)
                        (refine AnyS.takeD (i := 37) 136 (v := ?_) (by kernel_rfl) rfl rfl (by kernel_rfl) (by kernel_rfl) (by kernel_rfl) (fun _ _ _ h => h) (by assumption) ⟨⟨by kernel_rfl, ?_⟩, fun _ => rfl⟩ ?_; rotate_left; (rintro w' ⟨hs1, hs2, hs3, hs4, hs5⟩; go_simp; rfl))
                        refine AnyS.act (by simp only [Act.put, List.setIfInBounds_toArray, List.set_cons_succ, List.set_cons_zero]; rfl) ?_
                        refine AnyS.done (by kernel_rfl) ?_ _
                        clear hS3
                        go_wp2_with fail
                        go_roundw
                        case rel => exact ⟨v + 1, by go_num, by omega, HB3, HC3, HBU3⟩
                        case measure => simp [intOf]; omega
                      | false =>
                        obtain rfl : sb = sa := by simpa using hsb
                        clear hsb
                        cases sb
                        all_goals
                          (refine AnyS.takeD (i := 25) 124 (v := ?_) (by kernel_rfl) rfl rfl (by kernel_rfl) (by kernel_rfl) (by kernel_rfl) (fun _ _ _ h => h) (by assumption) ⟨⟨by kernel_rfl, ?_⟩, fun _ => rfl⟩ ?_; rotate_left; (rintro w' ⟨hs1, hs2, hs3, hs4, hs5⟩; go_simp; rfl))
                          (refine AnyS.takeD (i := 26) 125 (v := ?_) (by kernel_rfl) rfl rfl (by kernel_rfl) (by kernel_rfl) (by kernel_rfl) (fun _ _ _ h => h) (by assumption) ⟨⟨by kernel_rfl, ?_⟩, fun _ => rfl⟩ ?_; rotate_left; (rintro w' ⟨hs1, hs2, hs3, hs4, hs5⟩; go_simp; rfl))
                          (refine AnyS.takeD (i := 27) 126 (v := ?_) (by kernel_rfl) rfl rfl (by kernel_rfl) (by kernel_rfl) (by kernel_rfl) (fun _ _ _ h => h) (by assumption) ⟨⟨by kernel_rfl, ?_⟩, fun _ => rfl⟩ ?_; rotate_left; (rintro w' ⟨hs1, hs2, hs3, hs4, hs5⟩; go_simp; rfl))
                          (refine AnyS.takeD (i := 28) 127 (v := ?_) (by kernel_rfl) rfl rfl (by kernel_rfl) (by kernel_rfl) (by kernel_rfl) (fun _ _ _ h => h) (by assumption) ⟨⟨by kernel_rfl, ?_⟩, fun _ => rfl⟩ ?_; rotate_left; (rintro w' ⟨hs1, hs2, hs3, hs4, hs5⟩; go_simp; rfl))
                          (refine AnyS.takeD (i := 29) 128 (v := ?_) (by kernel_rfl) rfl rfl (by kernel_rfl) (by kernel_rfl) (by kernel_rfl) (fun _ _ _ h => h) (by assumption) ⟨⟨by kernel_rfl, ?_⟩, fun _ => rfl⟩ ?_; rotate_left; (rintro w' ⟨hs1, hs2, hs3, hs4, hs5⟩; go_simp; rfl))
                          (refine AnyS.takeD (i := 30) 129 (v := ?_) (by kernel_rfl) rfl rfl (by kernel_rfl) (by kernel_rfl) (by kernel_rfl) (fun _ _ _ h => h) (by assumption) ⟨⟨by kernel_rfl, ?_⟩, fun _ => rfl⟩ ?_; rotate_left; (rintro w' ⟨hs1, hs2, hs3, hs4, hs5⟩; go_simp; rfl))
                          (refine AnyS.takeD (i := 31) 130 (v := ?_) (by kernel_rfl) rfl rfl (by kernel_rfl) (by kernel_rfl) (by kernel_rfl) (fun _ _ _ h => h) (by assumption) ⟨⟨by kernel_rfl, ?_⟩, fun _ => rfl⟩ ?_; rotate_left; (rintro w' ⟨hs1, hs2, hs3, hs4, hs5⟩; go_simp; rfl))
                          (refine AnyS.takeD (i := 32) 131 (v := ?_) (by kernel_rfl) rfl rfl (by kernel_rfl) (by kernel_rfl) (by kernel_rfl) (fun _ _ _ h => h) (by assumption) ⟨⟨by kernel_rfl, ?_⟩, fun _ => rfl⟩ ?_; rotate_left; (rintro w' ⟨hs1, hs2, hs3, hs4, hs5⟩; go_simp; rfl))
                          (refine AnyS.takeD (i := 33) 132 (v := ?_) (by kernel_rfl) rfl rfl (by kernel_rfl) (by kernel_rfl) (by kernel_rfl) (fun _ _ _ h => h) (by assumption) ⟨⟨by kernel_rfl, ?_⟩, fun _ => rfl⟩ ?_; rotate_left; (rintro w' ⟨hs1, hs2, hs3, hs4, hs5⟩; go_simp; rfl))
                          (refine AnyS.takeD (i := 34) 133 (v := ?_) (by kernel_rfl) rfl rfl (by kernel_rfl) (by kernel_rfl) (by kernel_rfl) (fun _ _ _ h => h) (by assumption) ⟨⟨by kernel_rfl, ?_⟩, fun _ => rfl⟩ ?_; rotate_left; (rintro w' ⟨hs1, hs2, hs3, hs4, hs5⟩; go_simp; rfl))
                          (refine AnyS.takeD (i := 35) 134 (v := ?_) (by kernel_rfl) rfl rfl (by kernel_rfl) (by kernel_rfl) (by kernel_rfl) (fun _ _ _ h => h) (by assumption) ⟨⟨by kernel_rfl, ?_⟩, fun _ => rfl⟩ ?_; rotate_left; (rintro w' ⟨hs1, hs2, hs3, hs4, hs5⟩; go_simp; rfl))
                          (refine AnyS.takeD (i := 36) 135 (v := .bool false) (by kernel_rfl) rfl rfl (by kernel_rfl) (by kernel_rfl) (by kernel_rfl) (fun _ _ _ h => h) (by assumption) ⟨⟨by kernel_rfl, fun w' _ => by kernel_rfl⟩, fun _ => rfl⟩ ?_)
                          (refine AnyS.takeD (i := 37) 136 (v := ?_) (by kernel_rfl) rfl rfl (by kernel_rfl) (by kernel_rfl) (by kernel_rfl) (fun _ _ _ h => h) (by assumption) ⟨⟨by kernel_rfl, ?_⟩, fun _ => rfl⟩ ?_; rotate_left; (rintro w' ⟨hs1, hs2, hs3, hs4, hs5⟩; go_simp; rfl))
                          refine AnyS.act (by simp only [Act.put, List.setIfInBounds_toArray, List.set_cons_succ, List.set_cons_zero]; rfl) ?_
                          refine AnyS.done (by kernel_rfl) ?_ _
                          clear hS3
                          go_wp2_with fail
                          go_roundw
                          case rel => exact ⟨v + 1, by go_num, by omega, HB3, HC3, HBU3⟩
                          case measure => simp [intOf]; omega
            · obtain rfl : v = F.locals.length := by omega
              have HE : Hid (Bx wr bU 4 (tabA F.locals.length fun a => .bool (usedK F (k + 1) a))) := by
                have h1 := HBU.out
                rw [tabA_congr (g := fun a => .bool (usedK F (k + 1) a)) (fun j hj => by simp [hj])] at h1
                exact h1
              go_wp2_with fail
              go_roundw
              case rel => exact ⟨k + 1, by go_num, by omega, HB, HC10.out.trans HC.out, HE⟩
              case measure => simp [intOf]; omega
      · obtain rfl : k = np := by omega
        obtain ⟨V0, hV0⟩ : ∃ V0, V0 = wr := ⟨_, rfl⟩
        clear hV0
        go_wp2_with fail
        go_loopw [14] (fun i wq => ∃ (n : Nat), i = .int .i64 n ∧ n ≤ k ∧ Hid (Below w.heap.size w wq) ∧ Hid (Chg [bU] W8 wq) ∧ Hid (Bx wq bU 4 (tabA F.locals.length fun a => .bool (usedK F k a)))) (fun i _ => k - (intOf i).toNat)
        case atStart => exact ⟨0, rfl, Nat.zero_le _, HB, HC, HBU⟩
        case round =>
          clear HB HC HBU HBF
          obtain ⟨n, rfl, hn, HB, HC, HBU⟩ := hrel
          by_cases hnk : n < k
          · have hni : (n : Int) < (k : Int) := by omega
            go_wp2_with fail
            go_loopw [15] (fun i wq => ∃ (v : Nat), i = .int .i64 v ∧ v ≤ F.locals.length ∧ Hid (Below w.heap.size w wq) ∧ Hid (Chg [bU] W8 wq) ∧ Hid (Bx wq bU 4 (tabA F.locals.length fun a => .bool (usedK F k a)))) (fun i _ => F.locals.length - (intOf i).toNat)
            case atStart => exact ⟨0, rfl, Nat.zero_le _, HB, HC, HBU⟩
            case round =>
              clear HB HC HBU
              obtain ⟨v, rfl, hv, HB, HC, HBU⟩ := hrel
              have HBF := Lib.hid (HBF8.out.chg HC.out (by simpa using hne))
              have hcF := HBF.out.cell
              rw [HFC.out] at hcF
              by_cases hvn : v < F.locals.length
              · have hvi : (v : Int) < (F.locals.length : Int) := by omega
                have hpk : n < (pts F).length := by rw [← HNP.out]; exact hnk
                obtain ⟨ab, vb2, rfl, cb2, hvb2⟩ := (RRow.mono monoSets (Chg.le' HC.out) HXB8.out).set_at n (by rw [before_len]; exact hpk)
                obtain ⟨Asb, kb, rfl, _, _, sb3⟩ := hvb2
                have hlb : ((before F).getD n []).length = F.locals.length := before_rows _ (by rw [List.getD_eq_getElem?_getD, List.getElem?_eq_getElem (by rw [before_len]; exact hpk)]; exact List.getElem_mem _)
                obtain ⟨asb, rfl, cyb⟩ := sb3.bool_at' v (by rw [hlb]; exact hvn)
                rw [hlb] at cb2
                obtain ⟨sb, hsb⟩ : ∃ sb, sb = ((before F).getD n []).getD v false := ⟨_, rfl⟩
                rw [← hsb] at cyb
                rw [before_at hpk hvn] at hsb
                have cU : wr.cell? ⟨bU, v, none⟩ = some (.bool (usedK F k v)) := by
                  rw [HBU.out.cell, tabA_get hvn]
                have hus : sb = true → usedK F k v = true := fun e => by
                  rw [HNP.out]
                  exact usedK_all (pts_at hpk) (by rw [← hsb]; exact e)
                clear hsb sb3 hpk hlb
                cases sb with
                | false =>
                  clear hus
                  go_wp2_with fail
                  go_roundw
                  case rel => exact ⟨v + 1, by go_num, by omega, HB, HC, HBU⟩
                  case measure => simp [intOf]; omega
                | true =>
                  rw [hus rfl] at cU
                  clear hus
                  go_wp2_with fail
                  go_roundw
                  case rel => exact ⟨v + 1, by go_num, by omega, HB, HC, HBU⟩
                  case measure => simp [intOf]; omega
              · obtain rfl : v = F.locals.length := by omega
                go_wp2_with fail
                go_roundw
                case rel => exact ⟨n + 1, by go_num, by omega, HB, HC, HBU⟩
                case measure => simp [intOf]; omega
          · obtain rfl : n = k := by omega
            go_wp2_with fail
            go_ret
            exact ⟨rfl, HB.out⟩
end Go.Proofs.YtdkjkgokllmkmaaGreatDoor.Lv
