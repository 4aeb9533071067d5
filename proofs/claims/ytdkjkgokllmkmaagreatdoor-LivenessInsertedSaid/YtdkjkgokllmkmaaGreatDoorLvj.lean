/- Walks: the uses of a point (the reference's). -/
import Derived.Test.YtdkjkgokllmkmaaGreatDoorLvh
import Derived.Test.YtdkjkgokllmkmaaGreatDoorLvi
namespace Go.Proofs.YtdkjkgokllmkmaaGreatDoor.Lv
open Go.RowKit
set_option linter.unusedVariables false
set_option linter.unusedSimpArgs false
/-- What Tiny bounds, as far as the walks want it. -/
structure Szd (F : Fn) : Prop where
  locals : F.locals.length ≤ 40
  blocks : F.blocks.length ≤ 40
  code : ∀ B, B ∈ F.blocks → B.code.length ≤ 21
  targets : ∀ B, B ∈ F.blocks → B.fin.targets.length ≤ 20
  args : ∀ B, B ∈ F.blocks → ∀ x, x ∈ B.code → x.args.length ≤ 20
theorem getD_mem {α : Type} [Inhabited α] {l : List α} {i : Nat} (h : i < l.length) : l.getD i default ∈ l := by
  rw [List.getD_eq_getElem?_getD, List.getElem?_eq_getElem h]
  exact List.getElem_mem h
/-- Rows of numbers don't lie in a block that holds no number. -/
theorem RInts.avoid {w : World} {v : Value} {xs : List Int} {b t : Nat} {cs : Array Value} (h : RInts w.cell? v xs) (hb : Bx w b t cs) (hn : ∀ (j : Nat) (n : Int), cs[j]? ≠ some (Value.int .i64 n)) : RInts (look [b] w) v xs := by
  obtain ⟨A, k, e, h1, h2, h3⟩ := h
  refine ⟨A, k, e, h1, h2, fun j x hj => ?_⟩
  obtain ⟨ad, es, a1, a2, a3, a4⟩ := h3 j x hj
  refine ⟨ad, es, a1, a2, a3, fun i u hu => cell_look (fun hm => ?_) (a4 i u hu)⟩
  have hc := a4 i u hu
  have a3' : es = [.int .i64 x] := a3
  subst a3'
  obtain rfl : u = .int .i64 x := by
    rcases i with _ | i
    · simpa using hu.symm
    · simp at hu
  simp only [List.mem_singleton] at hm
  unfold World.cell? at hc
  rw [hm, show w.heap[b]? = _ from hb] at hc
  simp only at hc
  split at hc
  · cases hc
  · exact hn _ _ hc
theorem RUs.avoid {w : World} {v : Value} {u : Us} {b t : Nat} {cs : Array Value} (h : RUs w.cell? v u) (hb : Bx w b t cs) (hn : ∀ (j : Nat) (n : Int), cs[j]? ≠ some (Value.int .i64 n)) : RUs (look [b] w) v u := by
  obtain ⟨v0, v1, v2, v3, v4, e, h0, h1, h2, h3, h4⟩ := h
  exact ⟨v0, v1, v2, v3, v4, e, RInts.avoid h0 hb hn, RInts.avoid h1 hb hn, RInts.avoid h2 hb hn, RInts.avoid h3 hb hn, RInts.avoid h4 hb hn⟩
theorem nil5_no (j : Nat) (n : Int) : (#[.slice none 0 0, .slice none 0 0, .slice none 0 0, .slice none 0 0, .slice none 0 0] : Array Value)[j]? ≠ some (.int .i64 n) := by
  rcases j with _ | _ | _ | _ | _ | j <;> simp
theorem RUs.open {c : Lk} {v : Value} {u : Us} (h : RUs c v u) : ∃ A0 k0 A1 k1 A2 k2 A3 k3 A4 k4, v = .agg #[.slice A0 u.copies.length k0, .slice A1 u.moves.length k1, .slice A2 u.shares.length k2, .slice A3 u.lends.length k3, .slice A4 u.defs.length k4] := by
  obtain ⟨v0, v1, v2, v3, v4, rfl, ⟨A0, k0, rfl, _⟩, ⟨A1, k1, rfl, _⟩, ⟨A2, k2, rfl, _⟩, ⟨A3, k3, rfl, _⟩, ⟨A4, k4, rfl, _⟩⟩ := h
  exact ⟨A0, k0, A1, k1, A2, k2, A3, k3, A4, k4, rfl⟩
set_option maxHeartbeats 4000000 in
set_option maxRecDepth 100000 in
theorem at_any (v : Value) (F : Fn) (b i : Nat) (w : World) (hF : RFn w.cell? v F) (hs : Szd F) (hb : b < F.blocks.length) (hi : i < 1000) :
    Calls Tryz.prog 18 #[v, .agg #[.int .i64 b, .int .i64 i]] w (UsPost w (at_ F (b, i))) := by
  obtain ⟨mo, pa, ar, vb, vr, vl', vk, vt, Ab, At, nb, cb, nt, ct, rfl, rfl, rfl, m1, m2, ⟨Ar, kr, rfl, hr1, hr2, hr3⟩, ⟨Al, kl, rfl, h1, h2, hL⟩, ⟨Ak, kk, rfl, hk1, hk2, hk3⟩⟩ := id hF
  obtain ⟨adb, vc, vg, rfl, c0, c1, c2, c3, ⟨Ac, kc, rfl, hc1, hc2, hc3⟩, ⟨Ag, kg, rfl, hg1, hg2, hg3⟩⟩ := hk3.blk_at b hb
  have hbm : F.blocks.getD b default ∈ F.blocks := getD_mem hb
  obtain ⟨B, hB⟩ : ∃ B, B = F.blocks.getD b default := ⟨_, rfl⟩
  rw [← hB] at c0 c1 c2 c3 hc1 hc3 hg1 hg3 hbm
  have hcl := hs.code B hbm
  have htl := hs.targets B hbm
  have hbl := hs.blocks
  have hargs := hs.args B hbm
  have HAT : Hid (at_ F (b, i) = atB F B i) := by
    show at_ F (b, i) = _
    unfold at_ Fn.blk
    rw [hB]
  clear hr3 hL hk3
  have HF := Lib.hid (fun c (hc : Le w.cell? c) => hF.mono hc)
  have HT := Lib.hid (fun c (hc : Le w.cell? c) => (⟨_, rfl, Ag, kg, rfl, hg1, hg2, hg3.mono monoInt hc⟩ : RTerm c (.agg #[.int .i64 B.fin.kind, .int .i64 B.fin.a, .slice Ag B.fin.targets.length kg]) B.fin))
  have HC3 := Lib.hid hc3
  have HARGS := Lib.hid hargs
  have HB := Lib.hid hB
  clear hF hB hargs hs hbm hc3 hg3
  have hb0 : (b : Int) < (F.blocks.length : Int) := by omega
  by_cases hlt : i < B.code.length
  · obtain ⟨ad, va, vy, rfl, d0, d1, d2, d3, d4, d5, d6, ⟨Aa, ka, rfl, ha1, ha2, ha3⟩, ⟨Ay, ky, rfl, hy1, hy2, hy3⟩⟩ := HC3.out.ins_at i hlt
    have hxm : B.code.getD i default ∈ B.code := getD_mem hlt
    obtain ⟨x, hx⟩ : ∃ x, x = B.code.getD i default := ⟨_, rfl⟩
    rw [← hx] at d0 d1 d2 d3 d4 d5 d6 ha1 ha3 hy1 hy3 hxm
    have hxa := HARGS.out x hxm
    have HX := Lib.hid (fun c (hc : Le w.cell? c) => (⟨_, _, rfl, ⟨Aa, ka, rfl, ha1, ha2, ha3.mono monoInt hc⟩, ⟨Ay, ky, rfl, hy1, hy2, hy3.mono monoTy hc⟩⟩ : RIns c (.agg #[.int .i64 x.op, .int .i64 x.dst, .int .i64 x.a, .int .i64 x.b, .int .i64 x.n, .slice Aa x.args.length ka, .slice Ay x.types.length ky]) x))
    have HU : Hid (at_ F (b, i) = usesOf F x) := by
      show at_ F (b, i) = _
      rw [HAT.out]
      unfold atB
      rw [if_pos hlt, hx]
    have hi0 : (i : Int) < (B.code.length : Int) := by omega
    clear hx hxm ha3 hy3
    go_enter Tryz.func18, Tryz.ntmps18
    go_upto_region 1 with fail
    generalize hW0 : World.alloc (World.alloc (World.alloc w _) _) _ = W0
    have bF : Bx W0 w.heap.size 29 #[.string F.name, .int .i64 mo, .int .i64 pa, .slice Ab nb cb, .int .i64 ar, .int .i64 F.result.kind, .int .i64 F.result.id, .slice Ar F.result.args.length kr, .slice Al F.locals.length kl, .slice (some adb) F.blocks.length kk, .slice At nt ct] := (by rw [← hW0]; repeat (first | (refine Bx.at0 _ _ _ ?_; (simp; done)) | apply Bx.alloc))
    have bX : Bx W0 (w.heap.size + 1) 43 #[.int .i64 b, .int .i64 i] := (by rw [← hW0]; repeat (first | (refine Bx.at0 _ _ _ ?_; (simp; done)) | apply Bx.alloc))
    have bR : Bx W0 (w.heap.size + 1 + 1) 40 #[.slice none 0 0, .slice none 0 0, .slice none 0 0, .slice none 0 0, .slice none 0 0] := (by rw [← hW0]; repeat (first | (refine Bx.at0 _ _ _ ?_; (simp; done)) | apply Bx.alloc))
    have HB0 : Hid (Below w.heap.size w W0) := by rw [← hW0]; repeat (first | apply Bl.alloc | exact Below.refl _ _)
    clear hW0
    have c0' := Bl.le HB0.out _ _ c0
    have c1' := Bl.le HB0.out _ _ c1
    have c2' := Bl.le HB0.out _ _ c2
    have c3' := Bl.le HB0.out _ _ c3
    clear c0 c1 c2 c3
    have cF := bF.cell
    have cX := bX.cell
    have lF := bF.lt
    have lX := bX.lt
    have lR := bR.lt
    go_upto_region 2 with fail
    obtain ⟨NB, hNB⟩ : ∃ NB, NB = W0.heap.size := ⟨_, rfl⟩
    rw [← hNB]
    generalize hW1 : World.alloc W0 _ = W1
    have bF1 : Bx W1 w.heap.size 29 #[.string F.name, .int .i64 mo, .int .i64 pa, .slice Ab nb cb, .int .i64 ar, .int .i64 F.result.kind, .int .i64 F.result.id, .slice Ar F.result.args.length kr, .slice Al F.locals.length kl, .slice (some adb) F.blocks.length kk, .slice At nt ct] := by rw [← hW1]; exact bF.alloc _
    have bX1 : Bx W1 (w.heap.size + 1) 43 #[.int .i64 b, .int .i64 i] := by rw [← hW1]; exact bX.alloc _
    have bR1 : Bx W1 (w.heap.size + 1 + 1) 40 #[.slice none 0 0, .slice none 0 0, .slice none 0 0, .slice none 0 0, .slice none 0 0] := by rw [← hW1]; exact bR.alloc _
    have bB1 : Bx W1 NB 66 #[.slice (some ad) B.code.length kc, .int .i64 B.fin.kind, .int .i64 B.fin.a, .slice Ag B.fin.targets.length kg] := by rw [← hW1]; exact Bx.at0 _ _ _ hNB
    have HB1 : Hid (Below w.heap.size w W1) := by rw [← hW1]; exact Bl.alloc HB0.out _
    clear hW1 hNB cF cX bF bX bR lF lX lR HB0 c0' c1' c2' c3'
    have cF := bF1.cell
    have cX := bX1.cell
    have cB := bB1.cell
    have cR := bR1.cell
    have fR := bR1.frozen
    have d0' := Bl.le HB1.out _ _ d0
    have d1' := Bl.le HB1.out _ _ d1
    have d2' := Bl.le HB1.out _ _ d2
    have d3' := Bl.le HB1.out _ _ d3
    have d4' := Bl.le HB1.out _ _ d4
    have d5' := Bl.le HB1.out _ _ d5
    have d6' := Bl.le HB1.out _ _ d6
    clear d0 d1 d2 d3 d4 d5 d6
    go_upto_region 3 with fail
    go_still_tail 7, (by kernel_rfl)
    change wpList _ _ _ _ _ W1.drew
    have BR1 := Lib.hid bR1.drew
    have HBD := Lib.hid (Bl.drew HB1.out)
    clear bF1 bX1 bR1 bB1 HB1 cF cX cB cR fR d0' d1' d2' d3' d4' d5' d6'
    revert BR1 HBD
    generalize W1.drew = WD
    intro BR1 HBD
    go_wp2_with fail
    refine (uses_any _ _ F x _ (HF.out _ (Bl.le HBD.out)) (HX.out _ (Bl.le HBD.out)) (by omega)).mono ?_
    rintro e w2 ⟨⟨vu, rfl, hvu⟩, hb2⟩
    obtain ⟨A0, k0, A1, k1, A2, k2, A3, k3, A4, k4, rfl⟩ := hvu.open
    have bR2 := BR1.out.below hb2
    have HV2 := Lib.hid (hvu.avoid bR2 nil5_no)
    have HB2 := Lib.hid (HBD.out.trans (hb2.mono HBD.out.size))
    have cR := bR2.cell
    have fR := bR2.frozen
    clear bR2 hb2 hvu
    go_wp2_with fail
    rw [HU.out]
    refine bodyPost_ret (v := ?v1) ?h1 rfl ?r1
    case h1 =>
      simp [results, Tryz.results18, go_sem, cR, fR] <;> rfl
    case r1 =>
      exact ⟨⟨_, rfl, HV2.out.mono (Chg.le' (by repeat (first | refine Chg.put ?_ (.inl (by simp)) _ | exact Chg.refl _ w2)))⟩, Bl.chg HB2.out (D := [w.heap.size + 2]) (by repeat (first | refine Chg.put ?_ (.inl (by simp)) _ | exact Chg.refl _ w2)) (by simp)⟩
  · have HU : Hid (at_ F (b, i) = endsOf F B.fin) := by
      show at_ F (b, i) = _
      rw [HAT.out]
      unfold atB
      rw [if_neg hlt]
    have hi0 : (B.code.length : Int) ≤ (i : Int) := by omega
    go_enter Tryz.func18, Tryz.ntmps18
    go_upto_region 1 with fail
    generalize hW0 : World.alloc (World.alloc (World.alloc w _) _) _ = W0
    have bF : Bx W0 w.heap.size 29 #[.string F.name, .int .i64 mo, .int .i64 pa, .slice Ab nb cb, .int .i64 ar, .int .i64 F.result.kind, .int .i64 F.result.id, .slice Ar F.result.args.length kr, .slice Al F.locals.length kl, .slice (some adb) F.blocks.length kk, .slice At nt ct] := (by rw [← hW0]; repeat (first | (refine Bx.at0 _ _ _ ?_; (simp; done)) | apply Bx.alloc))
    have bX : Bx W0 (w.heap.size + 1) 43 #[.int .i64 b, .int .i64 i] := (by rw [← hW0]; repeat (first | (refine Bx.at0 _ _ _ ?_; (simp; done)) | apply Bx.alloc))
    have bR : Bx W0 (w.heap.size + 1 + 1) 40 #[.slice none 0 0, .slice none 0 0, .slice none 0 0, .slice none 0 0, .slice none 0 0] := (by rw [← hW0]; repeat (first | (refine Bx.at0 _ _ _ ?_; (simp; done)) | apply Bx.alloc))
    have HB0 : Hid (Below w.heap.size w W0) := by rw [← hW0]; repeat (first | apply Bl.alloc | exact Below.refl _ _)
    clear hW0
    have c0' := Bl.le HB0.out _ _ c0
    have c1' := Bl.le HB0.out _ _ c1
    have c2' := Bl.le HB0.out _ _ c2
    have c3' := Bl.le HB0.out _ _ c3
    clear c0 c1 c2 c3
    have cF := bF.cell
    have cX := bX.cell
    have lF := bF.lt
    have lX := bX.lt
    have lR := bR.lt
    go_upto_region 2 with fail
    obtain ⟨NB, hNB⟩ : ∃ NB, NB = W0.heap.size := ⟨_, rfl⟩
    rw [← hNB]
    generalize hW1 : World.alloc W0 _ = W1
    have bF1 : Bx W1 w.heap.size 29 #[.string F.name, .int .i64 mo, .int .i64 pa, .slice Ab nb cb, .int .i64 ar, .int .i64 F.result.kind, .int .i64 F.result.id, .slice Ar F.result.args.length kr, .slice Al F.locals.length kl, .slice (some adb) F.blocks.length kk, .slice At nt ct] := by rw [← hW1]; exact bF.alloc _
    have bX1 : Bx W1 (w.heap.size + 1) 43 #[.int .i64 b, .int .i64 i] := by rw [← hW1]; exact bX.alloc _
    have bR1 : Bx W1 (w.heap.size + 1 + 1) 40 #[.slice none 0 0, .slice none 0 0, .slice none 0 0, .slice none 0 0, .slice none 0 0] := by rw [← hW1]; exact bR.alloc _
    have bB1 : Bx W1 NB 66 #[.slice Ac B.code.length kc, .int .i64 B.fin.kind, .int .i64 B.fin.a, .slice Ag B.fin.targets.length kg] := by rw [← hW1]; exact Bx.at0 _ _ _ hNB
    have HB1 : Hid (Below w.heap.size w W1) := by rw [← hW1]; exact Bl.alloc HB0.out _
    clear hW1 hNB cF cX bF bX bR lF lX lR HB0 c0' c1' c2' c3'
    have cF := bF1.cell
    have cX := bX1.cell
    have cB := bB1.cell
    have cR := bR1.cell
    have fR := bR1.frozen
    go_upto_region 4 with fail
    go_wp2_with fail
    refine (ends_any _ _ F B.fin _ (HF.out _ (Bl.le HB1.out)) (HT.out _ (Bl.le HB1.out))).mono ?_
    have BR1 := Lib.hid bR1
    have HBD := HB1
    clear bF1 bX1 bR1 bB1 HB1 cF cX cB cR fR
    rintro e w2 ⟨⟨vu, rfl, hvu⟩, hb2⟩
    obtain ⟨A0, k0, A1, k1, A2, k2, A3, k3, A4, k4, rfl⟩ := hvu.open
    have bR2 := BR1.out.below hb2
    have HV2 := Lib.hid (hvu.avoid bR2 nil5_no)
    have HB2 := Lib.hid (HBD.out.trans (hb2.mono HBD.out.size))
    have cR := bR2.cell
    have fR := bR2.frozen
    clear bR2 hb2 hvu
    go_wp2_with fail
    rw [HU.out]
    refine bodyPost_ret (v := ?v2) ?h2 rfl ?r2
    case h2 =>
      simp [results, Tryz.results18, go_sem, cR, fR] <;> rfl
    case r2 =>
      exact ⟨⟨_, rfl, HV2.out.mono (Chg.le' (by repeat (first | refine Chg.put ?_ (.inl (by simp)) _ | exact Chg.refl _ w2)))⟩, Bl.chg HB2.out (D := [w.heap.size + 2]) (by repeat (first | refine Chg.put ?_ (.inl (by simp)) _ | exact Chg.refl _ w2)) (by simp)⟩
end Go.Proofs.YtdkjkgokllmkmaaGreatDoor.Lv
