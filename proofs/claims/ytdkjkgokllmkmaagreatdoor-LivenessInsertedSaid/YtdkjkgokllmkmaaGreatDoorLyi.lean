/- LivenessInserted: the walk. -/
import Derived.Test.YtdkjkgokllmkmaaGreatDoorLyf
import Derived.Test.YtdkjkgokllmkmaaGreatDoorLyh
namespace Go.Proofs.YtdkjkgokllmkmaaGreatDoor.Lv
open Go.RowKit
set_option linter.unusedVariables false
set_option linter.unusedSimpArgs false
set_option maxHeartbeats 16000000 in
set_option maxRecDepth 100000 in
theorem insertedlaw_any (vf : Value) (F : Fn) (a1 a2 : Int) (w : World) (hF : RFn w.cell? vf F) (hw1 : (Lit.int .u8 a1).wf = true) (hw2 : (Lit.int .u8 a2).wf = true) :
    Calls Tryz.prog 7 #[vf, .int .u8 a1, .int .u8 a2] w fun e w' => e = .returned (.bool true) ∧ Below w.heap.size w w' := by
  obtain ⟨mo, pa, ar, vb, vr, vl', vk, vt, Ab, At, nb, cb, nt, ct, rfl, rfl, rfl, m1, m2, ⟨Ar, kr, rfl, hr1, hr2, hr3⟩, ⟨Al, kl, rfl, g1, g2, hL⟩, ⟨Ak, kk, rfl, hk1, hk2, hk3⟩⟩ := id hF
  have HF := Lib.hid (fun c (hc : Le w.cell? c) => hF.mono hc)
  have ha1 : 0 ≤ a1 ∧ a1 ≤ 255 := by simpa [Lit.wf, IntKind.min, IntKind.max, IntKind.signed, IntKind.bits] using hw1
  have ha2 : 0 ≤ a2 ∧ a2 ≤ 255 := by simpa [Lit.wf, IntKind.min, IntKind.max, IntKind.signed, IntKind.bits] using hw2
  obtain ⟨n1, rfl⟩ := Int.eq_ofNat_of_zero_le ha1.1
  obtain ⟨n2, rfl⟩ := Int.eq_ofNat_of_zero_le ha2.1
  have hn1 : n1 ≤ 255 := by omega
  have hn2 : n2 ≤ 255 := by omega
  clear hF hr3 hL hk3 ha1 ha2 hw1 hw2
  go_enter Tryz.func7, Tryz.ntmps7
  go_wp2_with fail
  obtain ⟨FC, hFC⟩ : ∃ FC : Array Value, FC = #[.string F.name, .int .i64 mo, .int .i64 pa, .slice Ab nb cb, .int .i64 ar, .int .i64 F.result.kind, .int .i64 F.result.id, .slice Ar F.result.args.length kr, .slice Al F.locals.length kl, .slice Ak F.blocks.length kk, .slice At nt ct] := ⟨_, rfl⟩
  obtain ⟨bF, hbF⟩ : ∃ bF, bF = w.heap.size := ⟨_, rfl⟩
  rw [← hbF]
  generalize hW : World.alloc _ _ = W
  have HB0 : Hid (Below w.heap.size w W) := by rw [← hW]; exact Bl.alloc (Below.refl _ _) _
  have HBF0 : Hid (Bx W bF 29 FC) := by
    show Bx _ _ _ _
    rw [← hW, hFC]
    exact Bx.at0 _ _ _ hbF
  have HFC := Lib.hid hFC
  clear hW hbF hFC
  refine (head_any W).mono ?_
  rintro e w1 ⟨rfl, hb1⟩
  have HB1 := Lib.hid (Bl.call HB0.out hb1)
  have HBF1 := Lib.hid (HBF0.out.below hb1)
  clear hb1 HB0 HBF0
  have cF := HBF1.out.cell
  rw [HFC.out] at cF
  go_wp2_with fail
  refine (tiny_any _ F w1 (HF.out _ (Bl.le HB1.out))).mono ?_
  rintro e w3 ⟨⟨bt, rfl, hty⟩, hb3⟩
  have HB3 := Lib.hid (Bl.call HB1.out hb3)
  have HBF3 := Lib.hid (HBF1.out.below hb3)
  clear hb3 HB1 HBF1 cF
  have cF := HBF3.out.cell
  rw [HFC.out] at cF
  cases bt with
  | false =>
    go_wp2_with fail
    go_ret
    exact ⟨rfl, HB3.out⟩
  | true =>
    have hT := hty rfl
    have HT := Lib.hid hT
    have HS := Lib.hid hT.szd
    have hlb := hT.blocks
    have hll := hT.locals
    clear hty hT
    by_cases hnb0 : F.blocks.length = 0
    · rw [hnb0] at cF
      go_wp2_with fail
      go_ret
      exact ⟨rfl, HB3.out⟩
    by_cases hnl0 : F.locals.length = 0
    · have hnbi : ((F.blocks.length : Int) == 0) = false := by simpa using hnb0
      rw [hnl0] at cF
      go_wp2_with fail
      go_ret
      exact ⟨rfl, HB3.out⟩
    have hnbi : ((F.blocks.length : Int) == 0) = false := by simpa using hnb0
    have hnli : ((F.locals.length : Int) == 0) = false := by simpa using hnl0
    go_upto_region 6 with fail
    have e1 : (n1 : Int) % (F.blocks.length : Int) = ((n1 % F.blocks.length : Nat) : Int) := by simp
    have e2 : (n2 : Int) % (F.locals.length : Int) = ((n2 % F.locals.length : Nat) : Int) := by simp
    rw [e1, e2]
    obtain ⟨bi, hbi⟩ : ∃ bi, bi = n1 % F.blocks.length := ⟨_, rfl⟩
    obtain ⟨vi, hvi⟩ : ∃ vi, vi = n2 % F.locals.length := ⟨_, rfl⟩
    rw [← hbi, ← hvi]
    have hbl : bi < F.blocks.length := by rw [hbi]; exact Nat.mod_lt _ (by omega)
    have hvl : vi < F.locals.length := by rw [hvi]; exact Nat.mod_lt _ (by omega)
    clear e1 e2 hbi hvi hnbi hnli
    go_wp2_with fail
    refine (inserted_any _ F bi (printI vi) w3 (HF.out _ (Bl.le HB3.out)) HT.out hbl rfl rfl).mono ?_
    rintro e w4 ⟨⟨vg, rfl, hvg⟩, hb4⟩
    have HB4 := Lib.hid (Bl.call HB3.out hb4)
    have HBF4 := Lib.hid (HBF3.out.below hb4)
    have HG := Lib.hid (fun c (hc : Le w4.cell? c) => hvg.mono hc)
    obtain ⟨mog, pag, arg, vbg, vrg, vlg, vkg, vtg, Abg, Atg, nbg, cbg, ntg, ctg, rfl, rfl, rfl, m1g, m2g, ⟨Arg, krg, rfl, hr1g, hr2g, hr3g⟩, ⟨Alg, klg, rfl, g1g, g2g, hLg⟩, ⟨Akg, kkg, rfl, hk1g, hk2g, hk3g⟩⟩ := hvg
    clear hb4 HB3 HBF3 cF hr3g hLg hk3g
    go_upto_region 7 with fail
    obtain ⟨GC, hGC⟩ : ∃ GC : Array Value, GC = #[.string (insB F bi (printI vi)).name, .int .i64 mog, .int .i64 pag, .slice Abg nbg cbg, .int .i64 arg, .int .i64 (insB F bi (printI vi)).result.kind, .int .i64 (insB F bi (printI vi)).result.id, .slice Arg (insB F bi (printI vi)).result.args.length krg, .slice Alg (insB F bi (printI vi)).locals.length klg, .slice Akg (insB F bi (printI vi)).blocks.length kkg, .slice Atg ntg ctg] := ⟨_, rfl⟩
    obtain ⟨bG, hbG⟩ : ∃ bG, bG = w4.heap.size := ⟨_, rfl⟩
    rw [← hbG]
    generalize hW5 : World.alloc _ _ = w5
    have hb45 : Below w4.heap.size w4 w5 := by rw [← hW5]; exact Bl.alloc (Below.refl _ _) _
    have HB5 := Lib.hid (Bl.call HB4.out hb45)
    have HBF5 := Lib.hid (HBF4.out.below hb45)
    have HBG5 : Hid (Bx w5 bG 29 GC) := by
      show Bx _ _ _ _
      rw [← hW5, hGC]
      exact Bx.at0 _ _ _ hbG
    have HG5 := Lib.hid (fun c (hc : Le w5.cell? c) => HG.out c ((Bl.le hb45).trans hc))
    have HGC := Lib.hid hGC
    clear hW5 hGC hbG hb45 HB4 HBF4 HG
    have cF := HBF5.out.cell
    rw [HFC.out] at cF
    go_wp2_with fail
    refine (inserted_any _ F bi (constI vi) w5 (HF.out _ (Bl.le HB5.out)) HT.out hbl rfl rfl).mono ?_
    rintro e w6 ⟨⟨vh, rfl, hvh⟩, hb6⟩
    have HB6 := Lib.hid (Bl.call HB5.out hb6)
    have HBF6 := Lib.hid (HBF5.out.below hb6)
    have HBG6 := Lib.hid (HBG5.out.below hb6)
    have HG6 := Lib.hid (fun c (hc : Le w6.cell? c) => HG5.out c ((Bl.le hb6).trans hc))
    have HH := Lib.hid (fun c (hc : Le w6.cell? c) => hvh.mono hc)
    obtain ⟨moh, pah, arh, vbh, vrh, vlh, vkh, vth, Abh, Ath, nbh, cbh, nth, cth, rfl, rfl, rfl, m1h, m2h, ⟨Arh, krh, rfl, hr1h, hr2h, hr3h⟩, ⟨Alh, klh, rfl, g1h, g2h, hLh⟩, ⟨Akh, kkh, rfl, hk1h, hk2h, hk3h⟩⟩ := hvh
    clear hb6 HB5 HBF5 HBG5 HG5 cF hr3h hLh hk3h
    go_upto_region 8 with fail
    obtain ⟨HCc, hHC⟩ : ∃ HCc : Array Value, HCc = #[.string (insB F bi (constI vi)).name, .int .i64 moh, .int .i64 pah, .slice Abh nbh cbh, .int .i64 arh, .int .i64 (insB F bi (constI vi)).result.kind, .int .i64 (insB F bi (constI vi)).result.id, .slice Arh (insB F bi (constI vi)).result.args.length krh, .slice Alh (insB F bi (constI vi)).locals.length klh, .slice Akh (insB F bi (constI vi)).blocks.length kkh, .slice Ath nth cth] := ⟨_, rfl⟩
    obtain ⟨bH, hbH⟩ : ∃ bH, bH = w6.heap.size := ⟨_, rfl⟩
    rw [← hbH]
    generalize hW7 : World.alloc _ _ = w7
    have hb67 : Below w6.heap.size w6 w7 := by rw [← hW7]; exact Bl.alloc (Below.refl _ _) _
    have HB7 := Lib.hid (Bl.call HB6.out hb67)
    have HBF7 := Lib.hid (HBF6.out.below hb67)
    have HBG7 := Lib.hid (HBG6.out.below hb67)
    have HBH7 : Hid (Bx w7 bH 29 HCc) := by
      show Bx _ _ _ _
      rw [← hW7, hHC]
      exact Bx.at0 _ _ _ hbH
    have HG7 := Lib.hid (fun c (hc : Le w7.cell? c) => HG6.out c ((Bl.le hb67).trans hc))
    have HH7 := Lib.hid (fun c (hc : Le w7.cell? c) => HH.out c ((Bl.le hb67).trans hc))
    have HHC := Lib.hid hHC
    clear hW7 hHC hbH hb67 HB6 HBF6 HBG6 HG6 HH
    have cF := HBF7.out.cell
    rw [HFC.out] at cF
    have cG := HBG7.out.cell
    rw [HGC.out] at cG
    go_wp2_with fail
    clear cF cG
    refine (others_any _ _ F (insB F bi (printI vi)) bi vi true w7 (HF.out _ (Bl.le HB7.out)) (HG7.out _ (Le.refl _)) HS.out (ins_szd HT.out (by simp [printI])) rfl hvl (fun p hp => sh_pt hbl hp) (sh_pt0 hbl) (fun p u hu => live_ins hbl (print_other hu).1 (print_other hu).2 p) (print_first hbl)).mono ?_
    rintro e w8 ⟨rfl, hb8⟩
    have HB8 := Lib.hid (Bl.call HB7.out hb8)
    have HBF8 := Lib.hid (HBF7.out.below hb8)
    have HBH8 := Lib.hid (HBH7.out.below hb8)
    have HH8 := Lib.hid (HH7.out _ (Bl.le hb8))
    clear hb8 HB7 HBF7 HBG7 HBH7 HG7 HH7
    have cF := HBF8.out.cell
    rw [HFC.out] at cF
    have cH := HBH8.out.cell
    rw [HHC.out] at cH
    go_wp2_with fail
    clear cF cH
    refine (others_any _ _ F (insB F bi (constI vi)) bi vi false w8 (HF.out _ (Bl.le HB8.out)) HH8.out HS.out (ins_szd HT.out (by simp [constI])) rfl hvl (fun p hp => sh_pt hbl hp) (sh_pt0 hbl) (fun p u hu => live_ins hbl (const_other hu).1 (const_other hu).2 p) (const_first hbl)).mono ?_
    rintro e w9 ⟨rfl, hb9⟩
    have HB9 := Lib.hid (Bl.call HB8.out hb9)
    clear hb9 HB8 HBF8 HBH8 HH8
    go_wp2_with fail
    go_ret
    exact ⟨rfl, HB9.out⟩
end Go.Proofs.YtdkjkgokllmkmaaGreatDoor.Lv
