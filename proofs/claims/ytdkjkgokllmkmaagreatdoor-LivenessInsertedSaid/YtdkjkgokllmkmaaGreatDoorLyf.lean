/- Walks: others. -/
import Derived.Test.YtdkjkgokllmkmaaGreatDoorLye
import Derived.Test.YtdkjkgokllmkmaaGreatDoorLxq
import Derived.Test.YtdkjkgokllmkmaaGreatDoorLwk
import Derived.Test.YtdkjkgokllmkmaaGreatDoorLwp
namespace Go.Proofs.YtdkjkgokllmkmaaGreatDoor.Lv
open Go.RowKit
set_option linter.unusedVariables false
set_option linter.unusedSimpArgs false
set_option maxHeartbeats 16000000 in
set_option maxRecDepth 100000 in
theorem others_any (vf vg : Value) (F G : Fn) (b v : Nat) (first : Bool) (w : World) (hF : RFn w.cell? vf F) (hG : RFn w.cell? vg G) (hsF : Szd F) (hsG : Szd G) (hnl : G.locals.length = F.locals.length) (hv : v < F.locals.length)
    (hpt : ∀ p, isPt F p → isPt G (sh b p)) (hpt0 : isPt G (b, 0)) (hlv : ∀ p u, u ≠ v → liveB G (sh b p) u = liveB F p u) (h0 : liveB G (b, 0) v = first) :
    Calls Tryz.prog 25 #[vf, vg, .int .i64 b, .int .i64 v, .bool first] w fun e w' => e = .returned (.bool true) ∧ Below w.heap.size w w' := by
  obtain ⟨mo, pa, ar, vb, vr, vl', vk, vt, Ab, At, nb, cb, nt, ct, rfl, rfl, rfl, m1, m2, ⟨Ar, kr, rfl, hr1, hr2, hr3⟩, ⟨Al, kl, rfl, g1, g2, hL⟩, ⟨Ak, kk, rfl, hk1, hk2, hk3⟩⟩ := id hF
  obtain ⟨mog, pag, arg, vbg, vrg, vlg, vkg, vtg, Abg, Atg, nbg, cbg, ntg, ctg, rfl, rfl, rfl, m1g, m2g, ⟨Arg, krg, rfl, hr1g, hr2g, hr3g⟩, ⟨Alg, klg, rfl, g1g, g2g, hLg⟩, ⟨Akg, kkg, rfl, hk1g, hk2g, hk3g⟩⟩ := id hG
  have HF := Lib.hid (fun c (hc : Le w.cell? c) => hF.mono hc)
  have HG := Lib.hid (fun c (hc : Le w.cell? c) => hG.mono hc)
  have HSF := Lib.hid hsF
  have HSG := Lib.hid hsG
  have HNL := Lib.hid hnl
  have HPT := Lib.hid hpt
  have HP0 := Lib.hid hpt0
  have HLV := Lib.hid hlv
  have HV0 := Lib.hid h0
  have hll := hsF.locals
  clear hF hr3 hL hk3 hG hr3g hLg hk3g hsF hsG hpt hpt0 hlv h0 hnl
  go_enter Tryz.func25, Tryz.ntmps25
  go_wp2_with fail
  obtain ⟨FC, hFC⟩ : ∃ FC : Array Value, FC = #[.string F.name, .int .i64 mo, .int .i64 pa, .slice Ab nb cb, .int .i64 ar, .int .i64 F.result.kind, .int .i64 F.result.id, .slice Ar F.result.args.length kr, .slice Al F.locals.length kl, .slice Ak F.blocks.length kk, .slice At nt ct] := ⟨_, rfl⟩
  obtain ⟨GC, hGC⟩ : ∃ GC : Array Value, GC = #[.string G.name, .int .i64 mog, .int .i64 pag, .slice Abg nbg cbg, .int .i64 arg, .int .i64 G.result.kind, .int .i64 G.result.id, .slice Arg G.result.args.length krg, .slice Alg G.locals.length klg, .slice Akg G.blocks.length kkg, .slice Atg ntg ctg] := ⟨_, rfl⟩
  obtain ⟨bF, hbF⟩ : ∃ bF, bF = w.heap.size := ⟨_, rfl⟩
  obtain ⟨bG, hbG⟩ : ∃ bG, bG = bF + 1 := ⟨_, rfl⟩
  rw [← hbF, ← hbG]
  generalize hW : World.alloc _ _ = W
  have HB0 : Hid (Below w.heap.size w W) := by rw [← hW]; exact Bl.alloc (Bl.alloc (Below.refl _ _) _) _
  have HBF0 : Hid (Bx W bF 29 FC) := by
    show Bx _ _ _ _
    rw [← hW, hFC]
    exact (Bx.at0 _ _ _ hbF).alloc _
  have HBG0 : Hid (Bx W bG 29 GC) := by
    show Bx _ _ _ _
    rw [← hW, hGC]
    exact Bx.at0 _ _ _ (by rw [hbG, hbF]; simp)
  have HFC := Lib.hid hFC
  have HGC := Lib.hid hGC
  clear hW hbF hFC hbG hGC
  refine (before_any _ F W (HF.out _ (Bl.le HB0.out)) HSF.out).mono ?_
  rintro e w1 ⟨⟨va, rfl, hva⟩, hb1⟩
  have HB1 := Lib.hid (Bl.call HB0.out hb1)
  have HBF1 := Lib.hid (HBF0.out.below hb1)
  have HBG1 := Lib.hid (HBG0.out.below hb1)
  have HVA1 := Lib.hid hva
  clear hb1 HB0 HBF0 HBG0 hva
  have cG := HBG1.out.cell
  rw [HGC.out] at cG
  go_wp2_with fail
  clear cG
  refine (before_any _ G w1 (HG.out _ (Bl.le HB1.out)) HSG.out).mono ?_
  rintro e w2 ⟨⟨vb, rfl, hvb⟩, hb2⟩
  have HB2 := Lib.hid (Bl.call HB1.out hb2)
  have HBF2 := Lib.hid (HBF1.out.below hb2)
  have HBG2 := Lib.hid (HBG1.out.below hb2)
  have HVA2 := Lib.hid (HVA1.out.mono monoSets (Bl.le hb2))
  have HVB2 := Lib.hid hvb
  clear hb2 HB1 HBF1 HBG1 HVA1 hvb
  have cF := HBF2.out.cell
  rw [HFC.out] at cF
  go_wp2_with fail
  clear cF
  refine (sized_true _ va F (before F) w2 (HF.out _ (Bl.le HB2.out)) HSF.out HVA2.out before_rows (before_len F)).mono ?_
  rintro e w3 ⟨rfl, hb3⟩
  have HB3 := Lib.hid (Bl.call HB2.out hb3)
  have HBF3 := Lib.hid (HBF2.out.below hb3)
  have HBG3 := Lib.hid (HBG2.out.below hb3)
  have HVA3 := Lib.hid (HVA2.out.mono monoSets (Bl.le hb3))
  have HVB3 := Lib.hid (HVB2.out.mono monoSets (Bl.le hb3))
  clear hb3 HB2 HBF2 HBG2 HVA2 HVB2
  have cG := HBG3.out.cell
  rw [HGC.out] at cG
  go_wp2_with fail
  clear cG
  refine (sized_true _ vb G (before G) w3 (HG.out _ (Bl.le HB3.out)) HSG.out HVB3.out before_rows (before_len G)).mono ?_
  rintro e w4 ⟨rfl, hb4⟩
  have HB4 := Lib.hid (Bl.call HB3.out hb4)
  have HBF4 := Lib.hid (HBF3.out.below hb4)
  have HBG4 := Lib.hid (HBG3.out.below hb4)
  have HVA4 := Lib.hid (HVA3.out.mono monoSets (Bl.le hb4))
  have HVB4 := Lib.hid (HVB3.out.mono monoSets (Bl.le hb4))
  clear hb4 HB3 HBF3 HBG3 HVA3 HVB3
  have cF := HBF4.out.cell
  rw [HFC.out] at cF
  go_wp2_with fail
  clear cF
  refine (points_any _ F w4 (HF.out _ (Bl.le HB4.out)) HSF.out).mono ?_
  rintro e w5 ⟨⟨vp, rfl, hvp⟩, hb5⟩
  have HB5 := Lib.hid (Bl.call HB4.out hb5)
  have HBF5 := Lib.hid (HBF4.out.below hb5)
  have HBG5 := Lib.hid (HBG4.out.below hb5)
  obtain ⟨XA, kA, rfl, xa1, xa2, xa3⟩ := HVA4.out.mono monoSets (Bl.le hb5)
  obtain ⟨XB, kB, rfl, xb1, xb2, xb3⟩ := HVB4.out.mono monoSets (Bl.le hb5)
  obtain ⟨XP, kP, rfl, xp1, xp2, xp3⟩ := hvp
  have HXA := Lib.hid xa3
  have HXB := Lib.hid xb3
  have HXP := Lib.hid xp3
  have hnb : (pts F).length ≤ 1000 := by
    have h1 := offs_le F HSF.out F.blocks.length (Nat.le_refl _)
    have h2 := HSF.out.blocks
    rw [pts_len]
    omega
  have hng : (pts G).length ≤ 1000 := by
    have h1 := offs_le G HSG.out G.blocks.length (Nat.le_refl _)
    have h2 := HSG.out.blocks
    rw [pts_len]
    omega
  clear hb5 HB4 HBF4 HBG4 HVA4 HVB4 xa1 xa2 xa3 xb1 xb2 xb3 xp1 xp2 xp3
  rw [before_len, before_len]
  obtain ⟨np, hnp⟩ : ∃ np, np = (pts F).length := ⟨_, rfl⟩
  obtain ⟨ng, hngp⟩ : ∃ ng, ng = (pts G).length := ⟨_, rfl⟩
  rw [← hnp] at hnb ⊢
  rw [← hngp] at hng ⊢
  have HNP := Lib.hid hnp
  have HNG := Lib.hid hngp
  clear hnp hngp
  go_wp2_with fail
  go_loopw [14] (fun i wr => ∃ (k : Nat), i = .int .i64 k ∧ k ≤ np ∧ Hid (Below w.heap.size w wr) ∧ Hid (Below w5.heap.size w5 wr) ∧ Hid (Bx wr bF 29 FC) ∧ Hid (Bx wr bG 29 GC)) (fun i _ => np - (intOf i).toNat)
  case atStart => exact ⟨0, rfl, Nat.zero_le _, HB5, Below.refl _ _, HBF5, HBG5⟩
  case round =>
    clear HB5 HBF5 HBG5
    obtain ⟨k, rfl, hk, HB, HC, HBF, HBG⟩ := hrel
    by_cases hkn : k < np
    · have hki : (k : Int) < (np : Int) := by omega
      have hkp : k < (pts F).length := by rw [← HNP.out]; exact hkn
      obtain ⟨ap, rfl, c0, c1⟩ := (RRow.mono monoPt (Bl.le HC.out) HXP.out).pt_at k hkp
      have hp := pts_at hkp
      obtain ⟨p1, p2, hpe⟩ : ∃ p1 p2, (pts F).getD k (0, 0) = (p1, p2) := ⟨_, _, rfl⟩
      rw [hpe] at c0 c1 hp
      simp only at c0 c1
      have hp2 : p2 ≤ 1000 := by
        have h1 := HSF.out.code _ (getD_mem hp.1)
        have h2 := hp.2
        unfold Fn.blk at h2
        simp only at h2 h1
        omega
      have HPE := Lib.hid hpe
      have hgp := HPT.out _ hp
      obtain ⟨s1, s2, hse⟩ : ∃ s1 s2, sh b (p1, p2) = (s1, s2) := ⟨_, _, rfl⟩
      rw [hse] at hgp
      have HGP := Lib.hid hgp
      have HSE := Lib.hid hse
      have hsv : (s1, s2) = if p1 = b then (p1, p2 + 1) else (p1, p2) := by rw [← hse]; rfl
      have ltp := World.block_lt_of_cell? _ _ c0
      clear hp hpe hgp hse
      have HX : ∀ w', w' = wr.alloc (.cells #[.int .i64 (s1 : Nat), .int .i64 (s2 : Nat)] 43) → Hid (Below w.heap.size w w') ∧ Hid (Below w5.heap.size w5 w') ∧ Hid (Bx w' bF 29 FC) ∧ Hid (Bx w' bG 29 GC) ∧ Hid (Bx w' wr.heap.size 43 #[.int .i64 (s1 : Nat), .int .i64 (s2 : Nat)]) := fun w' e => by
        subst e
        exact ⟨Bl.alloc HB.out _, Bl.alloc HC.out _, HBF.out.alloc _, HBG.out.alloc _, Bx.at0 _ _ _ rfl⟩
      have HXH := Lib.hid HX
      obtain ⟨bX, hbX⟩ : ∃ bX, bX = wr.heap.size := ⟨_, rfl⟩
      have HBX := Lib.hid hbX
      clear HX hbX HB HBF HBG
      have HHH : p1 = b ∧ s1 = b ∧ s2 = p2 + 1 ∨ p1 ≠ b ∧ s1 = p1 ∧ s2 = p2 := by
        by_cases hpb : p1 = b
        · rw [if_pos hpb] at hsv
          simp only [Prod.mk.injEq] at hsv
          exact .inl ⟨hpb, by rw [hsv.1]; exact hpb, hsv.2⟩
        · rw [if_neg hpb] at hsv
          simp only [Prod.mk.injEq] at hsv
          exact .inr ⟨hpb, hsv.1, hsv.2⟩
      clear hsv
      rcases HHH with ⟨h1, h2, h3⟩ | ⟨h1, h2, h3⟩
      case' inl =>
        have hbe : ((p1 : Int) == (b : Int)) = true := by simp [h1]
        have HE := Lib.hid (show (p1 : Int) = (s1 : Int) ∧ (p2 : Int) + 1 = (s2 : Int) by omega)
        clear h1 h2 h3
        go_upto_region 12 with fail
        rw [HE.out.1, HE.out.2]
      case' inr =>
        have hbe : ((p1 : Int) == (b : Int)) = false := by simp; omega
        have HE := Lib.hid (show (p1 : Int) = (s1 : Int) ∧ (p2 : Int) = (s2 : Int) by omega)
        clear h1 h2 h3
        go_upto_region 12 with fail
        rw [HE.out.1, HE.out.2]
      all_goals
        generalize hW1 : World.alloc _ _ = w1
        obtain ⟨hB1, hC1, hF1, hG1, hX1⟩ := HXH.out w1 hW1.symm
        have cX := hX1.out.cell
        have cG := hG1.out.cell
        rw [HGC.out] at cG
        clear hW1 hbe ltp c0 c1 HXH HBX hX1
        go_wp2_with fail
        clear cX cG
        refine (index_any _ G s1 s2 w1 (HG.out _ (Bl.le hB1.out)) HSG.out HGP.out.1 HGP.out.2).mono ?_
        rintro e w6 ⟨rfl, hb6⟩
        have HB6 := Lib.hid (Bl.call hB1.out hb6)
        have HC6 := Lib.hid (Bl.call hC1.out hb6)
        have HBF6 := Lib.hid (hF1.out.below hb6)
        have HBG6 := Lib.hid (hG1.out.below hb6)
        have hil := idx_lt HGP.out
        rw [← HNG.out] at hil
        obtain ⟨ix, hix⟩ : ∃ ix, ix = idx G (s1, s2) := ⟨_, rfl⟩
        have e0 : s2 + offs G s1 = ix := by rw [hix]; rfl
        rw [e0]
        rw [← hix] at hil
        have hii : (ix : Int) < (ng : Int) := by omega
        have HIX := Lib.hid hix
        clear e0 hix hb6 hB1 hC1 hF1 hG1
        go_wp2_with fail
        go_loopw [17] (fun i wr => ∃ (u : Nat), i = .int .i64 u ∧ u ≤ F.locals.length ∧ Hid (Below w.heap.size w wr) ∧ Hid (Below w5.heap.size w5 wr) ∧ Hid (Bx wr bF 29 FC) ∧ Hid (Bx wr bG 29 GC)) (fun i _ => F.locals.length - (intOf i).toNat)
        case atStart => exact ⟨0, rfl, Nat.zero_le _, HB6, HC6, HBF6, HBG6⟩
        case round =>
          clear HB6 HC6 HBF6 HBG6
          obtain ⟨u, rfl, hu, HB, HC, HBF, HBG⟩ := hrel
          have hcF := HBF.out.cell
          rw [HFC.out] at hcF
          by_cases hun : u < F.locals.length
          · have hui : (u : Int) < (F.locals.length : Int) := by omega
            by_cases huv : u = v
            · have hne : ((u : Int) != (v : Int)) = false := by simp [huv]
              clear huv
              go_wp2_with fail
              go_quiet (fail)
              go_wp2_with fail
              go_roundw
              case rel => exact ⟨u + 1, by go_num, by omega, Bl.drewN HB.out _, Bl.drewN HC.out _, HBF, HBG⟩
              case measure => simp [intOf]; omega
            · have hne : ((u : Int) != (v : Int)) = true := by simp; omega
              obtain ⟨aa, va2, rfl, ca, hva2⟩ := (RRow.mono monoSets (Bl.le HC.out) HXA.out).set_at k (by rw [before_len]; exact hkp)
              obtain ⟨ab, vb2, rfl, cb, hvb2⟩ := (RRow.mono monoSets (Bl.le HC.out) HXB.out).set_at ix (by rw [before_len, ← HNG.out]; exact hil)
              obtain ⟨Asa, ka, rfl, _, _, sa3⟩ := hva2
              obtain ⟨Asb, kb, rfl, _, _, sb3⟩ := hvb2
              have hla : ((before F).getD k []).length = F.locals.length := before_rows _ (by rw [List.getD_eq_getElem?_getD, List.getElem?_eq_getElem (by rw [before_len]; exact hkp)]; exact List.getElem_mem _)
              have hlb : ((before G).getD ix []).length = G.locals.length := before_rows _ (by rw [List.getD_eq_getElem?_getD, List.getElem?_eq_getElem (by rw [before_len, ← HNG.out]; exact hil)]; exact List.getElem_mem _)
              have hug : u < G.locals.length := by rw [HNL.out]; exact hun
              obtain ⟨asa, rfl, cya⟩ := sa3.bool_at' u (by rw [hla]; exact hun)
              obtain ⟨asb, rfl, cyb⟩ := sb3.bool_at' u (by rw [hlb]; exact hug)
              rw [hla] at ca
              rw [hlb] at cb
              rw [before_at hkp hun, HPE.out] at cya
              rw [HIX.out, before_idx HGP.out hug, ← HSE.out, HLV.out _ _ huv] at cyb
              obtain ⟨sa, hsa⟩ : ∃ sa, sa = liveB F (p1, p2) u := ⟨_, rfl⟩
              rw [← hsa] at cya cyb
              have hugi : (u : Int) < (G.locals.length : Int) := by omega
              have hss : (sa != sa) = false := by simp
              clear hsa hla hlb sa3 sb3 huv
              go_wp2_with fail
              go_quiet (fail)
              go_wp2_with fail
              go_roundw
              case rel => exact ⟨u + 1, by go_num, by omega, Bl.drewN HB.out _, Bl.drewN HC.out _, HBF, HBG⟩
              case measure => simp [intOf]; omega
          · obtain rfl : u = F.locals.length := by omega
            go_wp2_with fail
            go_roundw
            case rel => exact ⟨k + 1, by go_num, by omega, HB, HC, HBF, HBG⟩
            case measure => simp [intOf]; omega
    · obtain rfl : k = np := by omega
      have hcG := HBG.out.cell
      rw [HGC.out] at hcG
      go_wp2_with fail
      clear hcG
      refine (index_any _ G b 0 wr (HG.out _ (Bl.le HB.out)) HSG.out HP0.out.1 HP0.out.2).mono ?_
      rintro e w6 ⟨rfl, hb6⟩
      have hil := idx_lt HP0.out
      rw [← HNG.out] at hil
      have e0 : 0 + offs G b = idx G (b, 0) := rfl
      rw [e0]
      obtain ⟨ab, vs, rfl, cb, hvs⟩ := (RRow.mono monoSets (Bl.le (Bl.call HC.out hb6)) HXB.out).set_at (idx G (b, 0)) (by rw [before_len, ← HNG.out]; exact hil)
      obtain ⟨As, ks, rfl, _, _, s3⟩ := hvs
      have hsl : ((before G).getD (idx G (b, 0)) []).length = G.locals.length := before_rows _ (by rw [List.getD_eq_getElem?_getD, List.getElem?_eq_getElem (by rw [before_len, ← HNG.out]; exact hil)]; exact List.getElem_mem _)
      rw [hsl] at cb
      obtain ⟨asp, rfl, cy⟩ := s3.bool_at' v (by rw [hsl, HNL.out]; exact hv)
      have hvg : v < G.locals.length := by rw [HNL.out]; exact hv
      rw [before_idx HP0.out hvg, HV0.out] at cy
      have hvi : (v : Int) < (G.locals.length : Int) := by omega
      obtain ⟨ix, hix⟩ : ∃ ix, ix = idx G (b, 0) := ⟨_, rfl⟩
      rw [← hix] at cb hil ⊢
      have hii : (ix : Int) < (ng : Int) := by omega
      have HB6 := Lib.hid (Bl.call HB.out hb6)
      clear hix e0 s3 hsl hb6 hil HV0
      cases first
      all_goals
        go_wp2_with fail
        go_ret
        exact ⟨rfl, HB6.out⟩
end Go.Proofs.YtdkjkgokllmkmaaGreatDoor.Lv
