/- Walks: the uses of an instruction (the reference's): what lends. -/
import Derived.Test.YtdkjkgokllmkmaaGreatDoorLvf
namespace Go.Proofs.YtdkjkgokllmkmaaGreatDoor.Lv
open Go.RowKit
set_option linter.unusedVariables false
set_option linter.unusedSimpArgs false
def nil5 (i : Nat) (v : Value) : Value := .agg (#[.slice none 0 0, .slice none 0 0, .slice none 0 0, .slice none 0 0, .slice none 0 0].setIfInBounds i v)
theorem lent_t (a : Int) (w : World) : Calls Tryz.prog 49 #[.int .i64 a, .bool true] w fun e w' => (e = .returned (.agg #[.slice none 0 0, .slice none 0 0, .slice (some ⟨w.heap.size + 1, 0, none⟩) 1 1, .slice none 0 0, .slice none 0 0]) ∧ Bx w' (w.heap.size + 1) 3 #[.int .i64 a]) ∧ Below w.heap.size w w' := by
  go_enter Tryz.func49, Tryz.ntmps49
  go_wp2
  refine bodyPost_ret (v := .agg #[.slice none 0 0, .slice none 0 0, .slice (some ⟨w.heap.size + 1, 0, none⟩) 1 1, .slice none 0 0, .slice none 0 0]) (by simp [results, Tryz.results49, go_sem]) rfl ?_
  exact ⟨⟨rfl, Bx.at0 _ _ _ (by simp)⟩, ((Below.refl _ _).alloc (Nat.le_refl _) _).alloc (by simp) _⟩
theorem lent_f (a : Int) (w : World) : Calls Tryz.prog 49 #[.int .i64 a, .bool false] w fun e w' => (e = .returned (.agg #[.slice none 0 0, .slice none 0 0, .slice none 0 0, .slice (some ⟨w.heap.size + 1, 0, none⟩) 1 1, .slice none 0 0]) ∧ Bx w' (w.heap.size + 1) 3 #[.int .i64 a]) ∧ Below w.heap.size w w' := by
  go_enter Tryz.func49, Tryz.ntmps49
  go_wp2
  refine bodyPost_ret (v := .agg #[.slice none 0 0, .slice none 0 0, .slice none 0 0, .slice (some ⟨w.heap.size + 1, 0, none⟩) 1 1, .slice none 0 0]) (by simp [results, Tryz.results49, go_sem]) rfl ?_
  exact ⟨⟨rfl, Bx.at0 _ _ _ (by simp)⟩, ((Below.refl _ _).alloc (Nat.le_refl _) _).alloc (by simp) _⟩
set_option maxRecDepth 100000 in
theorem field25 (a b c : Value) (w : World) : (Instr.field 25 (.agg #[a, b, c]) 0).run Tryz.prog w = .ok a w := by rfl
set_option maxHeartbeats 4000000 in
set_option maxRecDepth 100000 in
theorem uses_op12t (v vx : Value) (F : Fn) (x : Ins) (w : World) (hF : RFn w.cell? v F) (hx : RIns w.cell? vx x) (hn : x.args.length ≤ 100000) (ho : x.op = 12) (hk : (kindOf F x.dst == 7) = true) :
    Calls Tryz.prog 37 #[v, vx] w (UsPost w (usesOf F x)) := by
  obtain ⟨mo, pa, ar, vb, vr, vl', vk, vt, Ab, At, nb, cb, nt, ct, rfl, rfl, rfl, m1, m2, ⟨Ar, kr, rfl, hr1, hr2, hr3⟩, ⟨Al, kl, rfl, h1, h2, hL⟩, ⟨Ak, kk, rfl, hk1, hk2, hk3⟩⟩ := id hF
  obtain ⟨va, vy, rfl, ⟨Aa, ka, rfl, ha1, ha2, ha3⟩, ⟨Ay, ky, rfl, hy1, hy2, hy3⟩⟩ := id hx
  clear hr3 hk3 hL hy3
  have HF := Lib.hid (fun c (hc : Le w.cell? c) => hF.mono hc)
  have HA : Hid (∀ c, Le w.cell? c → RInts c (.slice Aa x.args.length ka) x.args) := fun c hc => ⟨Aa, ka, rfl, ha1, ha2, ha3.mono monoInt hc⟩
  have HU : Hid (usesOf F x = ⟨[], [], [x.a], [], [x.dst]⟩) := by
    show usesOf F x = _
    simp [usesOf, ho, lent, hk]
  clear hF hx ha3
  rw [ho]
  clear ho
  go_enter Tryz.func37, Tryz.ntmps37
  go_upto_region 29 with fail
  generalize hW0 : World.alloc (World.alloc (World.alloc (World.alloc w _) _) _) _ = W0
  have bF : Bx W0 w.heap.size 29 #[.string F.name, .int .i64 mo, .int .i64 pa, .slice Ab nb cb, .int .i64 ar, .int .i64 F.result.kind, .int .i64 F.result.id, .slice Ar F.result.args.length kr, .slice Al F.locals.length kl, .slice Ak F.blocks.length kk, .slice At nt ct] := (by rw [← hW0]; repeat (first | (refine Bx.at0 _ _ _ ?_; (simp; done)) | apply Bx.alloc))
  have bX : Bx W0 (w.heap.size + 1) 55 #[.int .i64 12, .int .i64 x.dst, .int .i64 x.a, .int .i64 x.b, .int .i64 x.n, .slice Aa x.args.length ka, .slice Ay x.types.length ky] := (by rw [← hW0]; repeat (first | (refine Bx.at0 _ _ _ ?_; (simp; done)) | apply Bx.alloc))
  have bR : Bx W0 (w.heap.size + 1 + 1) 40 #[.slice none 0 0, .slice none 0 0, .slice none 0 0, .slice none 0 0, .slice none 0 0] := (by rw [← hW0]; repeat (first | (refine Bx.at0 _ _ _ ?_; (simp; done)) | apply Bx.alloc))
  have bU : Bx W0 (w.heap.size + 1 + 1 + 1) 40 #[.slice none 0 0, .slice none 0 0, .slice none 0 0, .slice none 0 0, .slice none 0 0] := (by rw [← hW0]; repeat (first | (refine Bx.at0 _ _ _ ?_; (simp; done)) | apply Bx.alloc))
  have HB0 : Hid (Below w.heap.size w W0) := by rw [← hW0]; repeat (first | apply Bl.alloc | exact Below.refl _ _)
  clear hW0
  have cF := bF.cell
  have cX := bX.cell
  have hfld := field25
  have BF := Lib.hid bF
  have BX := Lib.hid bX
  have BR := Lib.hid bR
  have BU := Lib.hid bU
  clear bF bX bR bU
  go_region_held3 (fun w' => w'.cell? ⟨w.heap.size, 0, none⟩ = some (.string F.name) ∧ w'.cell? ⟨w.heap.size, 1, none⟩ = some (.int .i64 mo) ∧ w'.cell? ⟨w.heap.size, 2, none⟩ = some (.int .i64 pa) ∧ w'.cell? ⟨w.heap.size, 3, none⟩ = some (.slice Ab nb cb) ∧ w'.cell? ⟨w.heap.size, 4, none⟩ = some (.int .i64 ar) ∧ w'.cell? ⟨w.heap.size, 5, none⟩ = some (.int .i64 F.result.kind) ∧ w'.cell? ⟨w.heap.size, 6, none⟩ = some (.int .i64 F.result.id) ∧ w'.cell? ⟨w.heap.size, 7, none⟩ = some (.slice Ar F.result.args.length kr) ∧ w'.cell? ⟨w.heap.size, 8, none⟩ = some (.slice Al F.locals.length kl) ∧ w'.cell? ⟨w.heap.size, 9, none⟩ = some (.slice Ak F.blocks.length kk) ∧ w'.cell? ⟨w.heap.size, 10, none⟩ = some (.slice At nt ct) ∧ w'.cell? ⟨w.heap.size + 1, 1, none⟩ = some (.int .i64 x.dst) ∧ w'.cell? ⟨w.heap.size + 1, 2, none⟩ = some (.int .i64 x.a))
    (first
      | go_keep
      | exact ⟨(Bx.far5 (b := w.heap.size + 1 + 1 + 1) BF2.out (by omega) _ _ _ _ _).cell 0, (Bx.far5 (b := w.heap.size + 1 + 1 + 1) BF2.out (by omega) _ _ _ _ _).cell 1, (Bx.far5 (b := w.heap.size + 1 + 1 + 1) BF2.out (by omega) _ _ _ _ _).cell 2, (Bx.far5 (b := w.heap.size + 1 + 1 + 1) BF2.out (by omega) _ _ _ _ _).cell 3, (Bx.far5 (b := w.heap.size + 1 + 1 + 1) BF2.out (by omega) _ _ _ _ _).cell 4, (Bx.far5 (b := w.heap.size + 1 + 1 + 1) BF2.out (by omega) _ _ _ _ _).cell 5, (Bx.far5 (b := w.heap.size + 1 + 1 + 1) BF2.out (by omega) _ _ _ _ _).cell 6, (Bx.far5 (b := w.heap.size + 1 + 1 + 1) BF2.out (by omega) _ _ _ _ _).cell 7, (Bx.far5 (b := w.heap.size + 1 + 1 + 1) BF2.out (by omega) _ _ _ _ _).cell 8, (Bx.far5 (b := w.heap.size + 1 + 1 + 1) BF2.out (by omega) _ _ _ _ _).cell 9, (Bx.far5 (b := w.heap.size + 1 + 1 + 1) BF2.out (by omega) _ _ _ _ _).cell 10, (Bx.far5 (b := w.heap.size + 1 + 1 + 1) BX2.out (by omega) _ _ _ _ _).cell 1, (Bx.far5 (b := w.heap.size + 1 + 1 + 1) BX2.out (by omega) _ _ _ _ _).cell 2⟩)
    (first
      | (go_at_call 50; refine (of_any _ F _ _ (HF.out _ (Bl.le (by repeat (first | apply Bl.alloc | apply Bl.drew | exact HB0.out))))).mono ?_; rintro e w1 ⟨⟨i1, va1, rfl⟩, hb1⟩; have bF1 := BF.out.drew.below hb1; have bX1 := BX.out.drew.below hb1; have BR1 := Lib.hid (BR.out.drew.below hb1); have BU1 := Lib.hid (BU.out.drew.below hb1); have HB1 := Lib.hid ((Bl.drew HB0.out).trans (hb1.mono HB0.out.size)); have cF1 := bF1.cell; have cX1 := bX1.cell; have BF1 := Lib.hid bF1; have BX1 := Lib.hid bX1; clear bF1 bX1 hb1)
      | (go_at_call 49; refine (lent_t _ _).mono ?_; rintro e w2 ⟨⟨rfl, bv⟩, hb2⟩; have BF2 := Lib.hid (BF1.out.below hb2); have BX2 := Lib.hid (BX1.out.below hb2); have bU2 := BU1.out.below hb2; have BR2 := Lib.hid (BR1.out.below hb2); have HB2 := Lib.hid (HB1.out.trans (hb2.mono HB1.out.size)); have cF2 := BF2.out.cell; have cX2 := BX2.out.cell; have cU2 := bU2.cell; have fU2 := bU2.frozen; have BU2 := Lib.hid bU2; have BV := Lib.hid bv; clear bv bU2 hb2))
  have LU1 := Lib.hid BU1.out.lt
  obtain ⟨B2, hB2⟩ : ∃ B2, B2 = w1.heap.size + 1 := ⟨_, rfl⟩
  rw [← hB2]
  have BV' : Hid (Bx w2 B2 3 #[.int .i64 x.a]) := by rw [hB2]; exact BV.out
  have HB2N : Hid (w.heap.size + 3 < B2) := by have := LU1.out; show w.heap.size + 3 < B2; omega
  generalize hW2 : World.setCell (World.setCell (World.setCell (World.setCell (World.setCell w2 _ _) _ _) _ _) _ _) _ _ = W2
  have bX2 : Bx W2 (w.heap.size + 1) 55 #[.int .i64 12, .int .i64 x.dst, .int .i64 x.a, .int .i64 x.b, .int .i64 x.n, .slice Aa x.args.length ka, .slice Ay x.types.length ky] := by rw [← hW2]; exact BX2.out.far5 (by omega) _ _ _ _ _
  have bR2 : Bx W2 (w.heap.size + 1 + 1) 40 #[.slice none 0 0, .slice none 0 0, .slice none 0 0, .slice none 0 0, .slice none 0 0] := by rw [← hW2]; exact BR2.out.far5 (by omega) _ _ _ _ _
  have bU2 : Bx W2 (w.heap.size + 1 + 1 + 1) 40 #[.slice none 0 0, .slice none 0 0, .slice (some ⟨B2, 0, none⟩) 1 1, .slice none 0 0, .slice none 0 0] := by rw [← hW2]; exact BU2.out.set5 _ _ _ _ _
  have CH2 : Hid (Chg [w.heap.size + 2, w.heap.size + 3] w2 W2) := by rw [← hW2]; exact (Chg.refl _ _).put5 (.inl (by simp)) _ _ _ _ _
  have RV := Lib.hid (rints_boxD [w.heap.size + 2, w.heap.size + 3] BV'.out (by have := HB2N.out; simp; omega))
  have HBE := Lib.hid HB2.out
  clear BF BX BR BU BR1 BU1 HB1 cF cX BF1 BX1 cF1 cX1 BF2 BX2 BR2 HB2 cF2 cX2 cU2 fU2 BU2 BV BV' LU1 hW2 hB2 hfld
  have cX := bX2.cell
  have cU := bU2.cell
  have fU := bU2.frozen
  have lU := bU2.lt
  have lR := bR2.lt
  go_upto_region 52 with fail
  clear cX cU fU
  obtain ⟨B4, hB4⟩ : ∃ B4, B4 = W2.heap.size := ⟨_, rfl⟩
  rw [← hB4]
  generalize hW3 : World.alloc (World.setCell W2 _ _) _ = W3
  have bR3 : Bx W3 (w.heap.size + 1 + 1) 40 #[.slice none 0 0, .slice none 0 0, .slice none 0 0, .slice none 0 0, .slice none 0 0] := by rw [← hW3]; exact (bR2.far (by simp) _).alloc _
  have bU3 : Bx W3 (w.heap.size + 1 + 1 + 1) 40 #[.slice none 0 0, .slice none 0 0, .slice (some ⟨B2, 0, none⟩) 1 1, .slice none 0 0, .slice (some ⟨B4, 0, none⟩) 1 1] := by rw [← hW3]; simpa using (bU2.set 4 _).alloc _
  have b4 : Bx W3 B4 3 #[.int .i64 x.dst] := by rw [← hW3]; exact Bx.at0 _ 3 _ (by simpa [World.setCell] using hB4)
  have CH3 : Hid (Chg [w.heap.size + 2, w.heap.size + 3] w2 W3) := by rw [← hW3]; exact (CH2.out.put (.inl (by simp)) _).allo _
  have RD := Lib.hid (rints_boxD [w.heap.size + 2, w.heap.size + 3] b4 (by simp; omega))
  clear hW3 bX2 bR2 bU2 CH2 lU lR b4 hB4
  have cR := bR3.cell
  have fR := bR3.frozen
  have cU := bU3.cell
  clear bR3 bU3
  go_wp2_with fail
  rw [HU.out]
  refine bodyPost_ret (v := ?v) ?h rfl ?r
  case h =>
    simp [results, Tryz.results37, go_sem, cR, fR, cU] <;> rfl
  case r =>
    refine ⟨⟨_, rfl, _, _, _, _, _, rfl, ?_, ?_, ?_, ?_, ?_⟩, ?_⟩
    · exact RSl.nil _ _ _
    · exact RSl.nil _ _ _
    · exact RV.out.mono monoInt (Chg.le' (by repeat (first | refine Chg.put ?_ (.inl (by simp)) _ | exact CH3.out)))
    · exact RSl.nil _ _ _
    · exact RD.out.mono monoInt (Chg.le' (by repeat (first | refine Chg.put ?_ (.inl (by simp)) _ | exact Chg.refl _ W3)))
    · exact Bl.chg HBE.out (D := [w.heap.size + 2, w.heap.size + 3]) (by repeat (first | refine Chg.put ?_ (.inl (by simp)) _ | exact CH3.out)) (by simp)
set_option maxHeartbeats 4000000 in
set_option maxRecDepth 100000 in
theorem uses_op12f (v vx : Value) (F : Fn) (x : Ins) (w : World) (hF : RFn w.cell? v F) (hx : RIns w.cell? vx x) (hn : x.args.length ≤ 100000) (ho : x.op = 12) (hk : (kindOf F x.dst == 7) = false) :
    Calls Tryz.prog 37 #[v, vx] w (UsPost w (usesOf F x)) := by
  obtain ⟨mo, pa, ar, vb, vr, vl', vk, vt, Ab, At, nb, cb, nt, ct, rfl, rfl, rfl, m1, m2, ⟨Ar, kr, rfl, hr1, hr2, hr3⟩, ⟨Al, kl, rfl, h1, h2, hL⟩, ⟨Ak, kk, rfl, hk1, hk2, hk3⟩⟩ := id hF
  obtain ⟨va, vy, rfl, ⟨Aa, ka, rfl, ha1, ha2, ha3⟩, ⟨Ay, ky, rfl, hy1, hy2, hy3⟩⟩ := id hx
  clear hr3 hk3 hL hy3
  have HF := Lib.hid (fun c (hc : Le w.cell? c) => hF.mono hc)
  have HA : Hid (∀ c, Le w.cell? c → RInts c (.slice Aa x.args.length ka) x.args) := fun c hc => ⟨Aa, ka, rfl, ha1, ha2, ha3.mono monoInt hc⟩
  have HU : Hid (usesOf F x = ⟨[], [], [], [x.a], [x.dst]⟩) := by
    show usesOf F x = _
    simp [usesOf, ho, lent, hk]
  clear hF hx ha3
  rw [ho]
  clear ho
  go_enter Tryz.func37, Tryz.ntmps37
  go_upto_region 29 with fail
  generalize hW0 : World.alloc (World.alloc (World.alloc (World.alloc w _) _) _) _ = W0
  have bF : Bx W0 w.heap.size 29 #[.string F.name, .int .i64 mo, .int .i64 pa, .slice Ab nb cb, .int .i64 ar, .int .i64 F.result.kind, .int .i64 F.result.id, .slice Ar F.result.args.length kr, .slice Al F.locals.length kl, .slice Ak F.blocks.length kk, .slice At nt ct] := (by rw [← hW0]; repeat (first | (refine Bx.at0 _ _ _ ?_; (simp; done)) | apply Bx.alloc))
  have bX : Bx W0 (w.heap.size + 1) 55 #[.int .i64 12, .int .i64 x.dst, .int .i64 x.a, .int .i64 x.b, .int .i64 x.n, .slice Aa x.args.length ka, .slice Ay x.types.length ky] := (by rw [← hW0]; repeat (first | (refine Bx.at0 _ _ _ ?_; (simp; done)) | apply Bx.alloc))
  have bR : Bx W0 (w.heap.size + 1 + 1) 40 #[.slice none 0 0, .slice none 0 0, .slice none 0 0, .slice none 0 0, .slice none 0 0] := (by rw [← hW0]; repeat (first | (refine Bx.at0 _ _ _ ?_; (simp; done)) | apply Bx.alloc))
  have bU : Bx W0 (w.heap.size + 1 + 1 + 1) 40 #[.slice none 0 0, .slice none 0 0, .slice none 0 0, .slice none 0 0, .slice none 0 0] := (by rw [← hW0]; repeat (first | (refine Bx.at0 _ _ _ ?_; (simp; done)) | apply Bx.alloc))
  have HB0 : Hid (Below w.heap.size w W0) := by rw [← hW0]; repeat (first | apply Bl.alloc | exact Below.refl _ _)
  clear hW0
  have cF := bF.cell
  have cX := bX.cell
  have hfld := field25
  have BF := Lib.hid bF
  have BX := Lib.hid bX
  have BR := Lib.hid bR
  have BU := Lib.hid bU
  clear bF bX bR bU
  go_region_held3 (fun w' => w'.cell? ⟨w.heap.size, 0, none⟩ = some (.string F.name) ∧ w'.cell? ⟨w.heap.size, 1, none⟩ = some (.int .i64 mo) ∧ w'.cell? ⟨w.heap.size, 2, none⟩ = some (.int .i64 pa) ∧ w'.cell? ⟨w.heap.size, 3, none⟩ = some (.slice Ab nb cb) ∧ w'.cell? ⟨w.heap.size, 4, none⟩ = some (.int .i64 ar) ∧ w'.cell? ⟨w.heap.size, 5, none⟩ = some (.int .i64 F.result.kind) ∧ w'.cell? ⟨w.heap.size, 6, none⟩ = some (.int .i64 F.result.id) ∧ w'.cell? ⟨w.heap.size, 7, none⟩ = some (.slice Ar F.result.args.length kr) ∧ w'.cell? ⟨w.heap.size, 8, none⟩ = some (.slice Al F.locals.length kl) ∧ w'.cell? ⟨w.heap.size, 9, none⟩ = some (.slice Ak F.blocks.length kk) ∧ w'.cell? ⟨w.heap.size, 10, none⟩ = some (.slice At nt ct) ∧ w'.cell? ⟨w.heap.size + 1, 1, none⟩ = some (.int .i64 x.dst) ∧ w'.cell? ⟨w.heap.size + 1, 2, none⟩ = some (.int .i64 x.a))
    (first
      | go_keep
      | exact ⟨(Bx.far5 (b := w.heap.size + 1 + 1 + 1) BF2.out (by omega) _ _ _ _ _).cell 0, (Bx.far5 (b := w.heap.size + 1 + 1 + 1) BF2.out (by omega) _ _ _ _ _).cell 1, (Bx.far5 (b := w.heap.size + 1 + 1 + 1) BF2.out (by omega) _ _ _ _ _).cell 2, (Bx.far5 (b := w.heap.size + 1 + 1 + 1) BF2.out (by omega) _ _ _ _ _).cell 3, (Bx.far5 (b := w.heap.size + 1 + 1 + 1) BF2.out (by omega) _ _ _ _ _).cell 4, (Bx.far5 (b := w.heap.size + 1 + 1 + 1) BF2.out (by omega) _ _ _ _ _).cell 5, (Bx.far5 (b := w.heap.size + 1 + 1 + 1) BF2.out (by omega) _ _ _ _ _).cell 6, (Bx.far5 (b := w.heap.size + 1 + 1 + 1) BF2.out (by omega) _ _ _ _ _).cell 7, (Bx.far5 (b := w.heap.size + 1 + 1 + 1) BF2.out (by omega) _ _ _ _ _).cell 8, (Bx.far5 (b := w.heap.size + 1 + 1 + 1) BF2.out (by omega) _ _ _ _ _).cell 9, (Bx.far5 (b := w.heap.size + 1 + 1 + 1) BF2.out (by omega) _ _ _ _ _).cell 10, (Bx.far5 (b := w.heap.size + 1 + 1 + 1) BX2.out (by omega) _ _ _ _ _).cell 1, (Bx.far5 (b := w.heap.size + 1 + 1 + 1) BX2.out (by omega) _ _ _ _ _).cell 2⟩)
    (first
      | (go_at_call 50; refine (of_any _ F _ _ (HF.out _ (Bl.le (by repeat (first | apply Bl.alloc | apply Bl.drew | exact HB0.out))))).mono ?_; rintro e w1 ⟨⟨i1, va1, rfl⟩, hb1⟩; have bF1 := BF.out.drew.below hb1; have bX1 := BX.out.drew.below hb1; have BR1 := Lib.hid (BR.out.drew.below hb1); have BU1 := Lib.hid (BU.out.drew.below hb1); have HB1 := Lib.hid ((Bl.drew HB0.out).trans (hb1.mono HB0.out.size)); have cF1 := bF1.cell; have cX1 := bX1.cell; have BF1 := Lib.hid bF1; have BX1 := Lib.hid bX1; clear bF1 bX1 hb1)
      | (go_at_call 49; refine (lent_f _ _).mono ?_; rintro e w2 ⟨⟨rfl, bv⟩, hb2⟩; have BF2 := Lib.hid (BF1.out.below hb2); have BX2 := Lib.hid (BX1.out.below hb2); have bU2 := BU1.out.below hb2; have BR2 := Lib.hid (BR1.out.below hb2); have HB2 := Lib.hid (HB1.out.trans (hb2.mono HB1.out.size)); have cF2 := BF2.out.cell; have cX2 := BX2.out.cell; have cU2 := bU2.cell; have fU2 := bU2.frozen; have BU2 := Lib.hid bU2; have BV := Lib.hid bv; clear bv bU2 hb2))
  have LU1 := Lib.hid BU1.out.lt
  obtain ⟨B2, hB2⟩ : ∃ B2, B2 = w1.heap.size + 1 := ⟨_, rfl⟩
  rw [← hB2]
  have BV' : Hid (Bx w2 B2 3 #[.int .i64 x.a]) := by rw [hB2]; exact BV.out
  have HB2N : Hid (w.heap.size + 3 < B2) := by have := LU1.out; show w.heap.size + 3 < B2; omega
  generalize hW2 : World.setCell (World.setCell (World.setCell (World.setCell (World.setCell w2 _ _) _ _) _ _) _ _) _ _ = W2
  have bX2 : Bx W2 (w.heap.size + 1) 55 #[.int .i64 12, .int .i64 x.dst, .int .i64 x.a, .int .i64 x.b, .int .i64 x.n, .slice Aa x.args.length ka, .slice Ay x.types.length ky] := by rw [← hW2]; exact BX2.out.far5 (by omega) _ _ _ _ _
  have bR2 : Bx W2 (w.heap.size + 1 + 1) 40 #[.slice none 0 0, .slice none 0 0, .slice none 0 0, .slice none 0 0, .slice none 0 0] := by rw [← hW2]; exact BR2.out.far5 (by omega) _ _ _ _ _
  have bU2 : Bx W2 (w.heap.size + 1 + 1 + 1) 40 #[.slice none 0 0, .slice none 0 0, .slice none 0 0, .slice (some ⟨B2, 0, none⟩) 1 1, .slice none 0 0] := by rw [← hW2]; exact BU2.out.set5 _ _ _ _ _
  have CH2 : Hid (Chg [w.heap.size + 2, w.heap.size + 3] w2 W2) := by rw [← hW2]; exact (Chg.refl _ _).put5 (.inl (by simp)) _ _ _ _ _
  have RV := Lib.hid (rints_boxD [w.heap.size + 2, w.heap.size + 3] BV'.out (by have := HB2N.out; simp; omega))
  have HBE := Lib.hid HB2.out
  clear BF BX BR BU BR1 BU1 HB1 cF cX BF1 BX1 cF1 cX1 BF2 BX2 BR2 HB2 cF2 cX2 cU2 fU2 BU2 BV BV' LU1 hW2 hB2 hfld
  have cX := bX2.cell
  have cU := bU2.cell
  have fU := bU2.frozen
  have lU := bU2.lt
  have lR := bR2.lt
  go_upto_region 52 with fail
  clear cX cU fU
  obtain ⟨B4, hB4⟩ : ∃ B4, B4 = W2.heap.size := ⟨_, rfl⟩
  rw [← hB4]
  generalize hW3 : World.alloc (World.setCell W2 _ _) _ = W3
  have bR3 : Bx W3 (w.heap.size + 1 + 1) 40 #[.slice none 0 0, .slice none 0 0, .slice none 0 0, .slice none 0 0, .slice none 0 0] := by rw [← hW3]; exact (bR2.far (by simp) _).alloc _
  have bU3 : Bx W3 (w.heap.size + 1 + 1 + 1) 40 #[.slice none 0 0, .slice none 0 0, .slice none 0 0, .slice (some ⟨B2, 0, none⟩) 1 1, .slice (some ⟨B4, 0, none⟩) 1 1] := by rw [← hW3]; simpa using (bU2.set 4 _).alloc _
  have b4 : Bx W3 B4 3 #[.int .i64 x.dst] := by rw [← hW3]; exact Bx.at0 _ 3 _ (by simpa [World.setCell] using hB4)
  have CH3 : Hid (Chg [w.heap.size + 2, w.heap.size + 3] w2 W3) := by rw [← hW3]; exact (CH2.out.put (.inl (by simp)) _).allo _
  have RD := Lib.hid (rints_boxD [w.heap.size + 2, w.heap.size + 3] b4 (by simp; omega))
  clear hW3 bX2 bR2 bU2 CH2 lU lR b4 hB4
  have cR := bR3.cell
  have fR := bR3.frozen
  have cU := bU3.cell
  clear bR3 bU3
  go_wp2_with fail
  rw [HU.out]
  refine bodyPost_ret (v := ?v) ?h rfl ?r
  case h =>
    simp [results, Tryz.results37, go_sem, cR, fR, cU] <;> rfl
  case r =>
    refine ⟨⟨_, rfl, _, _, _, _, _, rfl, ?_, ?_, ?_, ?_, ?_⟩, ?_⟩
    · exact RSl.nil _ _ _
    · exact RSl.nil _ _ _
    · exact RSl.nil _ _ _
    · exact RV.out.mono monoInt (Chg.le' (by repeat (first | refine Chg.put ?_ (.inl (by simp)) _ | exact CH3.out)))
    · exact RD.out.mono monoInt (Chg.le' (by repeat (first | refine Chg.put ?_ (.inl (by simp)) _ | exact Chg.refl _ W3)))
    · exact Bl.chg HBE.out (D := [w.heap.size + 2, w.heap.size + 3]) (by repeat (first | refine Chg.put ?_ (.inl (by simp)) _ | exact CH3.out)) (by simp)
set_option maxHeartbeats 4000000 in
set_option maxRecDepth 100000 in
theorem uses_op13t (v vx : Value) (F : Fn) (x : Ins) (w : World) (hF : RFn w.cell? v F) (hx : RIns w.cell? vx x) (hn : x.args.length ≤ 100000) (ho : x.op = 13) (hk : (kindOf F x.dst == 7) = true) :
    Calls Tryz.prog 37 #[v, vx] w (UsPost w (usesOf F x)) := by
  obtain ⟨mo, pa, ar, vb, vr, vl', vk, vt, Ab, At, nb, cb, nt, ct, rfl, rfl, rfl, m1, m2, ⟨Ar, kr, rfl, hr1, hr2, hr3⟩, ⟨Al, kl, rfl, h1, h2, hL⟩, ⟨Ak, kk, rfl, hk1, hk2, hk3⟩⟩ := id hF
  obtain ⟨va, vy, rfl, ⟨Aa, ka, rfl, ha1, ha2, ha3⟩, ⟨Ay, ky, rfl, hy1, hy2, hy3⟩⟩ := id hx
  clear hr3 hk3 hL hy3
  have HF := Lib.hid (fun c (hc : Le w.cell? c) => hF.mono hc)
  have HA : Hid (∀ c, Le w.cell? c → RInts c (.slice Aa x.args.length ka) x.args) := fun c hc => ⟨Aa, ka, rfl, ha1, ha2, ha3.mono monoInt hc⟩
  have HU : Hid (usesOf F x = ⟨[], [], [x.a], [], [x.dst]⟩) := by
    show usesOf F x = _
    simp [usesOf, ho, lent, hk]
  clear hF hx ha3
  rw [ho]
  clear ho
  go_enter Tryz.func37, Tryz.ntmps37
  go_upto_region 29 with fail
  generalize hW0 : World.alloc (World.alloc (World.alloc (World.alloc w _) _) _) _ = W0
  have bF : Bx W0 w.heap.size 29 #[.string F.name, .int .i64 mo, .int .i64 pa, .slice Ab nb cb, .int .i64 ar, .int .i64 F.result.kind, .int .i64 F.result.id, .slice Ar F.result.args.length kr, .slice Al F.locals.length kl, .slice Ak F.blocks.length kk, .slice At nt ct] := (by rw [← hW0]; repeat (first | (refine Bx.at0 _ _ _ ?_; (simp; done)) | apply Bx.alloc))
  have bX : Bx W0 (w.heap.size + 1) 55 #[.int .i64 13, .int .i64 x.dst, .int .i64 x.a, .int .i64 x.b, .int .i64 x.n, .slice Aa x.args.length ka, .slice Ay x.types.length ky] := (by rw [← hW0]; repeat (first | (refine Bx.at0 _ _ _ ?_; (simp; done)) | apply Bx.alloc))
  have bR : Bx W0 (w.heap.size + 1 + 1) 40 #[.slice none 0 0, .slice none 0 0, .slice none 0 0, .slice none 0 0, .slice none 0 0] := (by rw [← hW0]; repeat (first | (refine Bx.at0 _ _ _ ?_; (simp; done)) | apply Bx.alloc))
  have bU : Bx W0 (w.heap.size + 1 + 1 + 1) 40 #[.slice none 0 0, .slice none 0 0, .slice none 0 0, .slice none 0 0, .slice none 0 0] := (by rw [← hW0]; repeat (first | (refine Bx.at0 _ _ _ ?_; (simp; done)) | apply Bx.alloc))
  have HB0 : Hid (Below w.heap.size w W0) := by rw [← hW0]; repeat (first | apply Bl.alloc | exact Below.refl _ _)
  clear hW0
  have cF := bF.cell
  have cX := bX.cell
  have hfld := field25
  have BF := Lib.hid bF
  have BX := Lib.hid bX
  have BR := Lib.hid bR
  have BU := Lib.hid bU
  clear bF bX bR bU
  go_region_held3 (fun w' => w'.cell? ⟨w.heap.size, 0, none⟩ = some (.string F.name) ∧ w'.cell? ⟨w.heap.size, 1, none⟩ = some (.int .i64 mo) ∧ w'.cell? ⟨w.heap.size, 2, none⟩ = some (.int .i64 pa) ∧ w'.cell? ⟨w.heap.size, 3, none⟩ = some (.slice Ab nb cb) ∧ w'.cell? ⟨w.heap.size, 4, none⟩ = some (.int .i64 ar) ∧ w'.cell? ⟨w.heap.size, 5, none⟩ = some (.int .i64 F.result.kind) ∧ w'.cell? ⟨w.heap.size, 6, none⟩ = some (.int .i64 F.result.id) ∧ w'.cell? ⟨w.heap.size, 7, none⟩ = some (.slice Ar F.result.args.length kr) ∧ w'.cell? ⟨w.heap.size, 8, none⟩ = some (.slice Al F.locals.length kl) ∧ w'.cell? ⟨w.heap.size, 9, none⟩ = some (.slice Ak F.blocks.length kk) ∧ w'.cell? ⟨w.heap.size, 10, none⟩ = some (.slice At nt ct) ∧ w'.cell? ⟨w.heap.size + 1, 1, none⟩ = some (.int .i64 x.dst) ∧ w'.cell? ⟨w.heap.size + 1, 2, none⟩ = some (.int .i64 x.a))
    (first
      | go_keep
      | exact ⟨(Bx.far5 (b := w.heap.size + 1 + 1 + 1) BF2.out (by omega) _ _ _ _ _).cell 0, (Bx.far5 (b := w.heap.size + 1 + 1 + 1) BF2.out (by omega) _ _ _ _ _).cell 1, (Bx.far5 (b := w.heap.size + 1 + 1 + 1) BF2.out (by omega) _ _ _ _ _).cell 2, (Bx.far5 (b := w.heap.size + 1 + 1 + 1) BF2.out (by omega) _ _ _ _ _).cell 3, (Bx.far5 (b := w.heap.size + 1 + 1 + 1) BF2.out (by omega) _ _ _ _ _).cell 4, (Bx.far5 (b := w.heap.size + 1 + 1 + 1) BF2.out (by omega) _ _ _ _ _).cell 5, (Bx.far5 (b := w.heap.size + 1 + 1 + 1) BF2.out (by omega) _ _ _ _ _).cell 6, (Bx.far5 (b := w.heap.size + 1 + 1 + 1) BF2.out (by omega) _ _ _ _ _).cell 7, (Bx.far5 (b := w.heap.size + 1 + 1 + 1) BF2.out (by omega) _ _ _ _ _).cell 8, (Bx.far5 (b := w.heap.size + 1 + 1 + 1) BF2.out (by omega) _ _ _ _ _).cell 9, (Bx.far5 (b := w.heap.size + 1 + 1 + 1) BF2.out (by omega) _ _ _ _ _).cell 10, (Bx.far5 (b := w.heap.size + 1 + 1 + 1) BX2.out (by omega) _ _ _ _ _).cell 1, (Bx.far5 (b := w.heap.size + 1 + 1 + 1) BX2.out (by omega) _ _ _ _ _).cell 2⟩)
    (first
      | (go_at_call 50; refine (of_any _ F _ _ (HF.out _ (Bl.le (by repeat (first | apply Bl.alloc | apply Bl.drew | exact HB0.out))))).mono ?_; rintro e w1 ⟨⟨i1, va1, rfl⟩, hb1⟩; have bF1 := BF.out.drew.below hb1; have bX1 := BX.out.drew.below hb1; have BR1 := Lib.hid (BR.out.drew.below hb1); have BU1 := Lib.hid (BU.out.drew.below hb1); have HB1 := Lib.hid ((Bl.drew HB0.out).trans (hb1.mono HB0.out.size)); have cF1 := bF1.cell; have cX1 := bX1.cell; have BF1 := Lib.hid bF1; have BX1 := Lib.hid bX1; clear bF1 bX1 hb1)
      | (go_at_call 49; refine (lent_t _ _).mono ?_; rintro e w2 ⟨⟨rfl, bv⟩, hb2⟩; have BF2 := Lib.hid (BF1.out.below hb2); have BX2 := Lib.hid (BX1.out.below hb2); have bU2 := BU1.out.below hb2; have BR2 := Lib.hid (BR1.out.below hb2); have HB2 := Lib.hid (HB1.out.trans (hb2.mono HB1.out.size)); have cF2 := BF2.out.cell; have cX2 := BX2.out.cell; have cU2 := bU2.cell; have fU2 := bU2.frozen; have BU2 := Lib.hid bU2; have BV := Lib.hid bv; clear bv bU2 hb2))
  have LU1 := Lib.hid BU1.out.lt
  obtain ⟨B2, hB2⟩ : ∃ B2, B2 = w1.heap.size + 1 := ⟨_, rfl⟩
  rw [← hB2]
  have BV' : Hid (Bx w2 B2 3 #[.int .i64 x.a]) := by rw [hB2]; exact BV.out
  have HB2N : Hid (w.heap.size + 3 < B2) := by have := LU1.out; show w.heap.size + 3 < B2; omega
  generalize hW2 : World.setCell (World.setCell (World.setCell (World.setCell (World.setCell w2 _ _) _ _) _ _) _ _) _ _ = W2
  have bX2 : Bx W2 (w.heap.size + 1) 55 #[.int .i64 13, .int .i64 x.dst, .int .i64 x.a, .int .i64 x.b, .int .i64 x.n, .slice Aa x.args.length ka, .slice Ay x.types.length ky] := by rw [← hW2]; exact BX2.out.far5 (by omega) _ _ _ _ _
  have bR2 : Bx W2 (w.heap.size + 1 + 1) 40 #[.slice none 0 0, .slice none 0 0, .slice none 0 0, .slice none 0 0, .slice none 0 0] := by rw [← hW2]; exact BR2.out.far5 (by omega) _ _ _ _ _
  have bU2 : Bx W2 (w.heap.size + 1 + 1 + 1) 40 #[.slice none 0 0, .slice none 0 0, .slice (some ⟨B2, 0, none⟩) 1 1, .slice none 0 0, .slice none 0 0] := by rw [← hW2]; exact BU2.out.set5 _ _ _ _ _
  have CH2 : Hid (Chg [w.heap.size + 2, w.heap.size + 3] w2 W2) := by rw [← hW2]; exact (Chg.refl _ _).put5 (.inl (by simp)) _ _ _ _ _
  have RV := Lib.hid (rints_boxD [w.heap.size + 2, w.heap.size + 3] BV'.out (by have := HB2N.out; simp; omega))
  have HBE := Lib.hid HB2.out
  clear BF BX BR BU BR1 BU1 HB1 cF cX BF1 BX1 cF1 cX1 BF2 BX2 BR2 HB2 cF2 cX2 cU2 fU2 BU2 BV BV' LU1 hW2 hB2 hfld
  have cX := bX2.cell
  have cU := bU2.cell
  have fU := bU2.frozen
  have lU := bU2.lt
  have lR := bR2.lt
  go_upto_region 52 with fail
  clear cX cU fU
  obtain ⟨B4, hB4⟩ : ∃ B4, B4 = W2.heap.size := ⟨_, rfl⟩
  rw [← hB4]
  generalize hW3 : World.alloc (World.setCell W2 _ _) _ = W3
  have bR3 : Bx W3 (w.heap.size + 1 + 1) 40 #[.slice none 0 0, .slice none 0 0, .slice none 0 0, .slice none 0 0, .slice none 0 0] := by rw [← hW3]; exact (bR2.far (by simp) _).alloc _
  have bU3 : Bx W3 (w.heap.size + 1 + 1 + 1) 40 #[.slice none 0 0, .slice none 0 0, .slice (some ⟨B2, 0, none⟩) 1 1, .slice none 0 0, .slice (some ⟨B4, 0, none⟩) 1 1] := by rw [← hW3]; simpa using (bU2.set 4 _).alloc _
  have b4 : Bx W3 B4 3 #[.int .i64 x.dst] := by rw [← hW3]; exact Bx.at0 _ 3 _ (by simpa [World.setCell] using hB4)
  have CH3 : Hid (Chg [w.heap.size + 2, w.heap.size + 3] w2 W3) := by rw [← hW3]; exact (CH2.out.put (.inl (by simp)) _).allo _
  have RD := Lib.hid (rints_boxD [w.heap.size + 2, w.heap.size + 3] b4 (by simp; omega))
  clear hW3 bX2 bR2 bU2 CH2 lU lR b4 hB4
  have cR := bR3.cell
  have fR := bR3.frozen
  have cU := bU3.cell
  clear bR3 bU3
  go_wp2_with fail
  rw [HU.out]
  refine bodyPost_ret (v := ?v) ?h rfl ?r
  case h =>
    simp [results, Tryz.results37, go_sem, cR, fR, cU] <;> rfl
  case r =>
    refine ⟨⟨_, rfl, _, _, _, _, _, rfl, ?_, ?_, ?_, ?_, ?_⟩, ?_⟩
    · exact RSl.nil _ _ _
    · exact RSl.nil _ _ _
    · exact RV.out.mono monoInt (Chg.le' (by repeat (first | refine Chg.put ?_ (.inl (by simp)) _ | exact CH3.out)))
    · exact RSl.nil _ _ _
    · exact RD.out.mono monoInt (Chg.le' (by repeat (first | refine Chg.put ?_ (.inl (by simp)) _ | exact Chg.refl _ W3)))
    · exact Bl.chg HBE.out (D := [w.heap.size + 2, w.heap.size + 3]) (by repeat (first | refine Chg.put ?_ (.inl (by simp)) _ | exact CH3.out)) (by simp)
set_option maxHeartbeats 4000000 in
set_option maxRecDepth 100000 in
theorem uses_op13f (v vx : Value) (F : Fn) (x : Ins) (w : World) (hF : RFn w.cell? v F) (hx : RIns w.cell? vx x) (hn : x.args.length ≤ 100000) (ho : x.op = 13) (hk : (kindOf F x.dst == 7) = false) :
    Calls Tryz.prog 37 #[v, vx] w (UsPost w (usesOf F x)) := by
  obtain ⟨mo, pa, ar, vb, vr, vl', vk, vt, Ab, At, nb, cb, nt, ct, rfl, rfl, rfl, m1, m2, ⟨Ar, kr, rfl, hr1, hr2, hr3⟩, ⟨Al, kl, rfl, h1, h2, hL⟩, ⟨Ak, kk, rfl, hk1, hk2, hk3⟩⟩ := id hF
  obtain ⟨va, vy, rfl, ⟨Aa, ka, rfl, ha1, ha2, ha3⟩, ⟨Ay, ky, rfl, hy1, hy2, hy3⟩⟩ := id hx
  clear hr3 hk3 hL hy3
  have HF := Lib.hid (fun c (hc : Le w.cell? c) => hF.mono hc)
  have HA : Hid (∀ c, Le w.cell? c → RInts c (.slice Aa x.args.length ka) x.args) := fun c hc => ⟨Aa, ka, rfl, ha1, ha2, ha3.mono monoInt hc⟩
  have HU : Hid (usesOf F x = ⟨[], [], [], [x.a], [x.dst]⟩) := by
    show usesOf F x = _
    simp [usesOf, ho, lent, hk]
  clear hF hx ha3
  rw [ho]
  clear ho
  go_enter Tryz.func37, Tryz.ntmps37
  go_upto_region 29 with fail
  generalize hW0 : World.alloc (World.alloc (World.alloc (World.alloc w _) _) _) _ = W0
  have bF : Bx W0 w.heap.size 29 #[.string F.name, .int .i64 mo, .int .i64 pa, .slice Ab nb cb, .int .i64 ar, .int .i64 F.result.kind, .int .i64 F.result.id, .slice Ar F.result.args.length kr, .slice Al F.locals.length kl, .slice Ak F.blocks.length kk, .slice At nt ct] := (by rw [← hW0]; repeat (first | (refine Bx.at0 _ _ _ ?_; (simp; done)) | apply Bx.alloc))
  have bX : Bx W0 (w.heap.size + 1) 55 #[.int .i64 13, .int .i64 x.dst, .int .i64 x.a, .int .i64 x.b, .int .i64 x.n, .slice Aa x.args.length ka, .slice Ay x.types.length ky] := (by rw [← hW0]; repeat (first | (refine Bx.at0 _ _ _ ?_; (simp; done)) | apply Bx.alloc))
  have bR : Bx W0 (w.heap.size + 1 + 1) 40 #[.slice none 0 0, .slice none 0 0, .slice none 0 0, .slice none 0 0, .slice none 0 0] := (by rw [← hW0]; repeat (first | (refine Bx.at0 _ _ _ ?_; (simp; done)) | apply Bx.alloc))
  have bU : Bx W0 (w.heap.size + 1 + 1 + 1) 40 #[.slice none 0 0, .slice none 0 0, .slice none 0 0, .slice none 0 0, .slice none 0 0] := (by rw [← hW0]; repeat (first | (refine Bx.at0 _ _ _ ?_; (simp; done)) | apply Bx.alloc))
  have HB0 : Hid (Below w.heap.size w W0) := by rw [← hW0]; repeat (first | apply Bl.alloc | exact Below.refl _ _)
  clear hW0
  have cF := bF.cell
  have cX := bX.cell
  have hfld := field25
  have BF := Lib.hid bF
  have BX := Lib.hid bX
  have BR := Lib.hid bR
  have BU := Lib.hid bU
  clear bF bX bR bU
  go_region_held3 (fun w' => w'.cell? ⟨w.heap.size, 0, none⟩ = some (.string F.name) ∧ w'.cell? ⟨w.heap.size, 1, none⟩ = some (.int .i64 mo) ∧ w'.cell? ⟨w.heap.size, 2, none⟩ = some (.int .i64 pa) ∧ w'.cell? ⟨w.heap.size, 3, none⟩ = some (.slice Ab nb cb) ∧ w'.cell? ⟨w.heap.size, 4, none⟩ = some (.int .i64 ar) ∧ w'.cell? ⟨w.heap.size, 5, none⟩ = some (.int .i64 F.result.kind) ∧ w'.cell? ⟨w.heap.size, 6, none⟩ = some (.int .i64 F.result.id) ∧ w'.cell? ⟨w.heap.size, 7, none⟩ = some (.slice Ar F.result.args.length kr) ∧ w'.cell? ⟨w.heap.size, 8, none⟩ = some (.slice Al F.locals.length kl) ∧ w'.cell? ⟨w.heap.size, 9, none⟩ = some (.slice Ak F.blocks.length kk) ∧ w'.cell? ⟨w.heap.size, 10, none⟩ = some (.slice At nt ct) ∧ w'.cell? ⟨w.heap.size + 1, 1, none⟩ = some (.int .i64 x.dst) ∧ w'.cell? ⟨w.heap.size + 1, 2, none⟩ = some (.int .i64 x.a))
    (first
      | go_keep
      | exact ⟨(Bx.far5 (b := w.heap.size + 1 + 1 + 1) BF2.out (by omega) _ _ _ _ _).cell 0, (Bx.far5 (b := w.heap.size + 1 + 1 + 1) BF2.out (by omega) _ _ _ _ _).cell 1, (Bx.far5 (b := w.heap.size + 1 + 1 + 1) BF2.out (by omega) _ _ _ _ _).cell 2, (Bx.far5 (b := w.heap.size + 1 + 1 + 1) BF2.out (by omega) _ _ _ _ _).cell 3, (Bx.far5 (b := w.heap.size + 1 + 1 + 1) BF2.out (by omega) _ _ _ _ _).cell 4, (Bx.far5 (b := w.heap.size + 1 + 1 + 1) BF2.out (by omega) _ _ _ _ _).cell 5, (Bx.far5 (b := w.heap.size + 1 + 1 + 1) BF2.out (by omega) _ _ _ _ _).cell 6, (Bx.far5 (b := w.heap.size + 1 + 1 + 1) BF2.out (by omega) _ _ _ _ _).cell 7, (Bx.far5 (b := w.heap.size + 1 + 1 + 1) BF2.out (by omega) _ _ _ _ _).cell 8, (Bx.far5 (b := w.heap.size + 1 + 1 + 1) BF2.out (by omega) _ _ _ _ _).cell 9, (Bx.far5 (b := w.heap.size + 1 + 1 + 1) BF2.out (by omega) _ _ _ _ _).cell 10, (Bx.far5 (b := w.heap.size + 1 + 1 + 1) BX2.out (by omega) _ _ _ _ _).cell 1, (Bx.far5 (b := w.heap.size + 1 + 1 + 1) BX2.out (by omega) _ _ _ _ _).cell 2⟩)
    (first
      | (go_at_call 50; refine (of_any _ F _ _ (HF.out _ (Bl.le (by repeat (first | apply Bl.alloc | apply Bl.drew | exact HB0.out))))).mono ?_; rintro e w1 ⟨⟨i1, va1, rfl⟩, hb1⟩; have bF1 := BF.out.drew.below hb1; have bX1 := BX.out.drew.below hb1; have BR1 := Lib.hid (BR.out.drew.below hb1); have BU1 := Lib.hid (BU.out.drew.below hb1); have HB1 := Lib.hid ((Bl.drew HB0.out).trans (hb1.mono HB0.out.size)); have cF1 := bF1.cell; have cX1 := bX1.cell; have BF1 := Lib.hid bF1; have BX1 := Lib.hid bX1; clear bF1 bX1 hb1)
      | (go_at_call 49; refine (lent_f _ _).mono ?_; rintro e w2 ⟨⟨rfl, bv⟩, hb2⟩; have BF2 := Lib.hid (BF1.out.below hb2); have BX2 := Lib.hid (BX1.out.below hb2); have bU2 := BU1.out.below hb2; have BR2 := Lib.hid (BR1.out.below hb2); have HB2 := Lib.hid (HB1.out.trans (hb2.mono HB1.out.size)); have cF2 := BF2.out.cell; have cX2 := BX2.out.cell; have cU2 := bU2.cell; have fU2 := bU2.frozen; have BU2 := Lib.hid bU2; have BV := Lib.hid bv; clear bv bU2 hb2))
  have LU1 := Lib.hid BU1.out.lt
  obtain ⟨B2, hB2⟩ : ∃ B2, B2 = w1.heap.size + 1 := ⟨_, rfl⟩
  rw [← hB2]
  have BV' : Hid (Bx w2 B2 3 #[.int .i64 x.a]) := by rw [hB2]; exact BV.out
  have HB2N : Hid (w.heap.size + 3 < B2) := by have := LU1.out; show w.heap.size + 3 < B2; omega
  generalize hW2 : World.setCell (World.setCell (World.setCell (World.setCell (World.setCell w2 _ _) _ _) _ _) _ _) _ _ = W2
  have bX2 : Bx W2 (w.heap.size + 1) 55 #[.int .i64 13, .int .i64 x.dst, .int .i64 x.a, .int .i64 x.b, .int .i64 x.n, .slice Aa x.args.length ka, .slice Ay x.types.length ky] := by rw [← hW2]; exact BX2.out.far5 (by omega) _ _ _ _ _
  have bR2 : Bx W2 (w.heap.size + 1 + 1) 40 #[.slice none 0 0, .slice none 0 0, .slice none 0 0, .slice none 0 0, .slice none 0 0] := by rw [← hW2]; exact BR2.out.far5 (by omega) _ _ _ _ _
  have bU2 : Bx W2 (w.heap.size + 1 + 1 + 1) 40 #[.slice none 0 0, .slice none 0 0, .slice none 0 0, .slice (some ⟨B2, 0, none⟩) 1 1, .slice none 0 0] := by rw [← hW2]; exact BU2.out.set5 _ _ _ _ _
  have CH2 : Hid (Chg [w.heap.size + 2, w.heap.size + 3] w2 W2) := by rw [← hW2]; exact (Chg.refl _ _).put5 (.inl (by simp)) _ _ _ _ _
  have RV := Lib.hid (rints_boxD [w.heap.size + 2, w.heap.size + 3] BV'.out (by have := HB2N.out; simp; omega))
  have HBE := Lib.hid HB2.out
  clear BF BX BR BU BR1 BU1 HB1 cF cX BF1 BX1 cF1 cX1 BF2 BX2 BR2 HB2 cF2 cX2 cU2 fU2 BU2 BV BV' LU1 hW2 hB2 hfld
  have cX := bX2.cell
  have cU := bU2.cell
  have fU := bU2.frozen
  have lU := bU2.lt
  have lR := bR2.lt
  go_upto_region 52 with fail
  clear cX cU fU
  obtain ⟨B4, hB4⟩ : ∃ B4, B4 = W2.heap.size := ⟨_, rfl⟩
  rw [← hB4]
  generalize hW3 : World.alloc (World.setCell W2 _ _) _ = W3
  have bR3 : Bx W3 (w.heap.size + 1 + 1) 40 #[.slice none 0 0, .slice none 0 0, .slice none 0 0, .slice none 0 0, .slice none 0 0] := by rw [← hW3]; exact (bR2.far (by simp) _).alloc _
  have bU3 : Bx W3 (w.heap.size + 1 + 1 + 1) 40 #[.slice none 0 0, .slice none 0 0, .slice none 0 0, .slice (some ⟨B2, 0, none⟩) 1 1, .slice (some ⟨B4, 0, none⟩) 1 1] := by rw [← hW3]; simpa using (bU2.set 4 _).alloc _
  have b4 : Bx W3 B4 3 #[.int .i64 x.dst] := by rw [← hW3]; exact Bx.at0 _ 3 _ (by simpa [World.setCell] using hB4)
  have CH3 : Hid (Chg [w.heap.size + 2, w.heap.size + 3] w2 W3) := by rw [← hW3]; exact (CH2.out.put (.inl (by simp)) _).allo _
  have RD := Lib.hid (rints_boxD [w.heap.size + 2, w.heap.size + 3] b4 (by simp; omega))
  clear hW3 bX2 bR2 bU2 CH2 lU lR b4 hB4
  have cR := bR3.cell
  have fR := bR3.frozen
  have cU := bU3.cell
  clear bR3 bU3
  go_wp2_with fail
  rw [HU.out]
  refine bodyPost_ret (v := ?v) ?h rfl ?r
  case h =>
    simp [results, Tryz.results37, go_sem, cR, fR, cU] <;> rfl
  case r =>
    refine ⟨⟨_, rfl, _, _, _, _, _, rfl, ?_, ?_, ?_, ?_, ?_⟩, ?_⟩
    · exact RSl.nil _ _ _
    · exact RSl.nil _ _ _
    · exact RSl.nil _ _ _
    · exact RV.out.mono monoInt (Chg.le' (by repeat (first | refine Chg.put ?_ (.inl (by simp)) _ | exact CH3.out)))
    · exact RD.out.mono monoInt (Chg.le' (by repeat (first | refine Chg.put ?_ (.inl (by simp)) _ | exact Chg.refl _ W3)))
    · exact Bl.chg HBE.out (D := [w.heap.size + 2, w.heap.size + 3]) (by repeat (first | refine Chg.put ?_ (.inl (by simp)) _ | exact CH3.out)) (by simp)
set_option maxHeartbeats 4000000 in
set_option maxRecDepth 100000 in
theorem uses_op14t (v vx : Value) (F : Fn) (x : Ins) (w : World) (hF : RFn w.cell? v F) (hx : RIns w.cell? vx x) (hn : x.args.length ≤ 100000) (ho : x.op = 14) (hk : (kindOf F x.dst == 7) = true) :
    Calls Tryz.prog 37 #[v, vx] w (UsPost w (usesOf F x)) := by
  obtain ⟨mo, pa, ar, vb, vr, vl', vk, vt, Ab, At, nb, cb, nt, ct, rfl, rfl, rfl, m1, m2, ⟨Ar, kr, rfl, hr1, hr2, hr3⟩, ⟨Al, kl, rfl, h1, h2, hL⟩, ⟨Ak, kk, rfl, hk1, hk2, hk3⟩⟩ := id hF
  obtain ⟨va, vy, rfl, ⟨Aa, ka, rfl, ha1, ha2, ha3⟩, ⟨Ay, ky, rfl, hy1, hy2, hy3⟩⟩ := id hx
  clear hr3 hk3 hL hy3
  have HF := Lib.hid (fun c (hc : Le w.cell? c) => hF.mono hc)
  have HA : Hid (∀ c, Le w.cell? c → RInts c (.slice Aa x.args.length ka) x.args) := fun c hc => ⟨Aa, ka, rfl, ha1, ha2, ha3.mono monoInt hc⟩
  have HU : Hid (usesOf F x = ⟨[], [], [x.a], [], [x.dst]⟩) := by
    show usesOf F x = _
    simp [usesOf, ho, lent, hk]
  clear hF hx ha3
  rw [ho]
  clear ho
  go_enter Tryz.func37, Tryz.ntmps37
  go_upto_region 29 with fail
  generalize hW0 : World.alloc (World.alloc (World.alloc (World.alloc w _) _) _) _ = W0
  have bF : Bx W0 w.heap.size 29 #[.string F.name, .int .i64 mo, .int .i64 pa, .slice Ab nb cb, .int .i64 ar, .int .i64 F.result.kind, .int .i64 F.result.id, .slice Ar F.result.args.length kr, .slice Al F.locals.length kl, .slice Ak F.blocks.length kk, .slice At nt ct] := (by rw [← hW0]; repeat (first | (refine Bx.at0 _ _ _ ?_; (simp; done)) | apply Bx.alloc))
  have bX : Bx W0 (w.heap.size + 1) 55 #[.int .i64 14, .int .i64 x.dst, .int .i64 x.a, .int .i64 x.b, .int .i64 x.n, .slice Aa x.args.length ka, .slice Ay x.types.length ky] := (by rw [← hW0]; repeat (first | (refine Bx.at0 _ _ _ ?_; (simp; done)) | apply Bx.alloc))
  have bR : Bx W0 (w.heap.size + 1 + 1) 40 #[.slice none 0 0, .slice none 0 0, .slice none 0 0, .slice none 0 0, .slice none 0 0] := (by rw [← hW0]; repeat (first | (refine Bx.at0 _ _ _ ?_; (simp; done)) | apply Bx.alloc))
  have bU : Bx W0 (w.heap.size + 1 + 1 + 1) 40 #[.slice none 0 0, .slice none 0 0, .slice none 0 0, .slice none 0 0, .slice none 0 0] := (by rw [← hW0]; repeat (first | (refine Bx.at0 _ _ _ ?_; (simp; done)) | apply Bx.alloc))
  have HB0 : Hid (Below w.heap.size w W0) := by rw [← hW0]; repeat (first | apply Bl.alloc | exact Below.refl _ _)
  clear hW0
  have cF := bF.cell
  have cX := bX.cell
  have hfld := field25
  have BF := Lib.hid bF
  have BX := Lib.hid bX
  have BR := Lib.hid bR
  have BU := Lib.hid bU
  clear bF bX bR bU
  go_region_held3 (fun w' => w'.cell? ⟨w.heap.size, 0, none⟩ = some (.string F.name) ∧ w'.cell? ⟨w.heap.size, 1, none⟩ = some (.int .i64 mo) ∧ w'.cell? ⟨w.heap.size, 2, none⟩ = some (.int .i64 pa) ∧ w'.cell? ⟨w.heap.size, 3, none⟩ = some (.slice Ab nb cb) ∧ w'.cell? ⟨w.heap.size, 4, none⟩ = some (.int .i64 ar) ∧ w'.cell? ⟨w.heap.size, 5, none⟩ = some (.int .i64 F.result.kind) ∧ w'.cell? ⟨w.heap.size, 6, none⟩ = some (.int .i64 F.result.id) ∧ w'.cell? ⟨w.heap.size, 7, none⟩ = some (.slice Ar F.result.args.length kr) ∧ w'.cell? ⟨w.heap.size, 8, none⟩ = some (.slice Al F.locals.length kl) ∧ w'.cell? ⟨w.heap.size, 9, none⟩ = some (.slice Ak F.blocks.length kk) ∧ w'.cell? ⟨w.heap.size, 10, none⟩ = some (.slice At nt ct) ∧ w'.cell? ⟨w.heap.size + 1, 1, none⟩ = some (.int .i64 x.dst) ∧ w'.cell? ⟨w.heap.size + 1, 2, none⟩ = some (.int .i64 x.a))
    (first
      | go_keep
      | exact ⟨(Bx.far5 (b := w.heap.size + 1 + 1 + 1) BF2.out (by omega) _ _ _ _ _).cell 0, (Bx.far5 (b := w.heap.size + 1 + 1 + 1) BF2.out (by omega) _ _ _ _ _).cell 1, (Bx.far5 (b := w.heap.size + 1 + 1 + 1) BF2.out (by omega) _ _ _ _ _).cell 2, (Bx.far5 (b := w.heap.size + 1 + 1 + 1) BF2.out (by omega) _ _ _ _ _).cell 3, (Bx.far5 (b := w.heap.size + 1 + 1 + 1) BF2.out (by omega) _ _ _ _ _).cell 4, (Bx.far5 (b := w.heap.size + 1 + 1 + 1) BF2.out (by omega) _ _ _ _ _).cell 5, (Bx.far5 (b := w.heap.size + 1 + 1 + 1) BF2.out (by omega) _ _ _ _ _).cell 6, (Bx.far5 (b := w.heap.size + 1 + 1 + 1) BF2.out (by omega) _ _ _ _ _).cell 7, (Bx.far5 (b := w.heap.size + 1 + 1 + 1) BF2.out (by omega) _ _ _ _ _).cell 8, (Bx.far5 (b := w.heap.size + 1 + 1 + 1) BF2.out (by omega) _ _ _ _ _).cell 9, (Bx.far5 (b := w.heap.size + 1 + 1 + 1) BF2.out (by omega) _ _ _ _ _).cell 10, (Bx.far5 (b := w.heap.size + 1 + 1 + 1) BX2.out (by omega) _ _ _ _ _).cell 1, (Bx.far5 (b := w.heap.size + 1 + 1 + 1) BX2.out (by omega) _ _ _ _ _).cell 2⟩)
    (first
      | (go_at_call 50; refine (of_any _ F _ _ (HF.out _ (Bl.le (by repeat (first | apply Bl.alloc | apply Bl.drew | exact HB0.out))))).mono ?_; rintro e w1 ⟨⟨i1, va1, rfl⟩, hb1⟩; have bF1 := BF.out.drew.below hb1; have bX1 := BX.out.drew.below hb1; have BR1 := Lib.hid (BR.out.drew.below hb1); have BU1 := Lib.hid (BU.out.drew.below hb1); have HB1 := Lib.hid ((Bl.drew HB0.out).trans (hb1.mono HB0.out.size)); have cF1 := bF1.cell; have cX1 := bX1.cell; have BF1 := Lib.hid bF1; have BX1 := Lib.hid bX1; clear bF1 bX1 hb1)
      | (go_at_call 49; refine (lent_t _ _).mono ?_; rintro e w2 ⟨⟨rfl, bv⟩, hb2⟩; have BF2 := Lib.hid (BF1.out.below hb2); have BX2 := Lib.hid (BX1.out.below hb2); have bU2 := BU1.out.below hb2; have BR2 := Lib.hid (BR1.out.below hb2); have HB2 := Lib.hid (HB1.out.trans (hb2.mono HB1.out.size)); have cF2 := BF2.out.cell; have cX2 := BX2.out.cell; have cU2 := bU2.cell; have fU2 := bU2.frozen; have BU2 := Lib.hid bU2; have BV := Lib.hid bv; clear bv bU2 hb2))
  have LU1 := Lib.hid BU1.out.lt
  obtain ⟨B2, hB2⟩ : ∃ B2, B2 = w1.heap.size + 1 := ⟨_, rfl⟩
  rw [← hB2]
  have BV' : Hid (Bx w2 B2 3 #[.int .i64 x.a]) := by rw [hB2]; exact BV.out
  have HB2N : Hid (w.heap.size + 3 < B2) := by have := LU1.out; show w.heap.size + 3 < B2; omega
  generalize hW2 : World.setCell (World.setCell (World.setCell (World.setCell (World.setCell w2 _ _) _ _) _ _) _ _) _ _ = W2
  have bX2 : Bx W2 (w.heap.size + 1) 55 #[.int .i64 14, .int .i64 x.dst, .int .i64 x.a, .int .i64 x.b, .int .i64 x.n, .slice Aa x.args.length ka, .slice Ay x.types.length ky] := by rw [← hW2]; exact BX2.out.far5 (by omega) _ _ _ _ _
  have bR2 : Bx W2 (w.heap.size + 1 + 1) 40 #[.slice none 0 0, .slice none 0 0, .slice none 0 0, .slice none 0 0, .slice none 0 0] := by rw [← hW2]; exact BR2.out.far5 (by omega) _ _ _ _ _
  have bU2 : Bx W2 (w.heap.size + 1 + 1 + 1) 40 #[.slice none 0 0, .slice none 0 0, .slice (some ⟨B2, 0, none⟩) 1 1, .slice none 0 0, .slice none 0 0] := by rw [← hW2]; exact BU2.out.set5 _ _ _ _ _
  have CH2 : Hid (Chg [w.heap.size + 2, w.heap.size + 3] w2 W2) := by rw [← hW2]; exact (Chg.refl _ _).put5 (.inl (by simp)) _ _ _ _ _
  have RV := Lib.hid (rints_boxD [w.heap.size + 2, w.heap.size + 3] BV'.out (by have := HB2N.out; simp; omega))
  have HBE := Lib.hid HB2.out
  clear BF BX BR BU BR1 BU1 HB1 cF cX BF1 BX1 cF1 cX1 BF2 BX2 BR2 HB2 cF2 cX2 cU2 fU2 BU2 BV BV' LU1 hW2 hB2 hfld
  have cX := bX2.cell
  have cU := bU2.cell
  have fU := bU2.frozen
  have lU := bU2.lt
  have lR := bR2.lt
  go_upto_region 52 with fail
  clear cX cU fU
  obtain ⟨B4, hB4⟩ : ∃ B4, B4 = W2.heap.size := ⟨_, rfl⟩
  rw [← hB4]
  generalize hW3 : World.alloc (World.setCell W2 _ _) _ = W3
  have bR3 : Bx W3 (w.heap.size + 1 + 1) 40 #[.slice none 0 0, .slice none 0 0, .slice none 0 0, .slice none 0 0, .slice none 0 0] := by rw [← hW3]; exact (bR2.far (by simp) _).alloc _
  have bU3 : Bx W3 (w.heap.size + 1 + 1 + 1) 40 #[.slice none 0 0, .slice none 0 0, .slice (some ⟨B2, 0, none⟩) 1 1, .slice none 0 0, .slice (some ⟨B4, 0, none⟩) 1 1] := by rw [← hW3]; simpa using (bU2.set 4 _).alloc _
  have b4 : Bx W3 B4 3 #[.int .i64 x.dst] := by rw [← hW3]; exact Bx.at0 _ 3 _ (by simpa [World.setCell] using hB4)
  have CH3 : Hid (Chg [w.heap.size + 2, w.heap.size + 3] w2 W3) := by rw [← hW3]; exact (CH2.out.put (.inl (by simp)) _).allo _
  have RD := Lib.hid (rints_boxD [w.heap.size + 2, w.heap.size + 3] b4 (by simp; omega))
  clear hW3 bX2 bR2 bU2 CH2 lU lR b4 hB4
  have cR := bR3.cell
  have fR := bR3.frozen
  have cU := bU3.cell
  clear bR3 bU3
  go_wp2_with fail
  rw [HU.out]
  refine bodyPost_ret (v := ?v) ?h rfl ?r
  case h =>
    simp [results, Tryz.results37, go_sem, cR, fR, cU] <;> rfl
  case r =>
    refine ⟨⟨_, rfl, _, _, _, _, _, rfl, ?_, ?_, ?_, ?_, ?_⟩, ?_⟩
    · exact RSl.nil _ _ _
    · exact RSl.nil _ _ _
    · exact RV.out.mono monoInt (Chg.le' (by repeat (first | refine Chg.put ?_ (.inl (by simp)) _ | exact CH3.out)))
    · exact RSl.nil _ _ _
    · exact RD.out.mono monoInt (Chg.le' (by repeat (first | refine Chg.put ?_ (.inl (by simp)) _ | exact Chg.refl _ W3)))
    · exact Bl.chg HBE.out (D := [w.heap.size + 2, w.heap.size + 3]) (by repeat (first | refine Chg.put ?_ (.inl (by simp)) _ | exact CH3.out)) (by simp)
set_option maxHeartbeats 4000000 in
set_option maxRecDepth 100000 in
theorem uses_op14f (v vx : Value) (F : Fn) (x : Ins) (w : World) (hF : RFn w.cell? v F) (hx : RIns w.cell? vx x) (hn : x.args.length ≤ 100000) (ho : x.op = 14) (hk : (kindOf F x.dst == 7) = false) :
    Calls Tryz.prog 37 #[v, vx] w (UsPost w (usesOf F x)) := by
  obtain ⟨mo, pa, ar, vb, vr, vl', vk, vt, Ab, At, nb, cb, nt, ct, rfl, rfl, rfl, m1, m2, ⟨Ar, kr, rfl, hr1, hr2, hr3⟩, ⟨Al, kl, rfl, h1, h2, hL⟩, ⟨Ak, kk, rfl, hk1, hk2, hk3⟩⟩ := id hF
  obtain ⟨va, vy, rfl, ⟨Aa, ka, rfl, ha1, ha2, ha3⟩, ⟨Ay, ky, rfl, hy1, hy2, hy3⟩⟩ := id hx
  clear hr3 hk3 hL hy3
  have HF := Lib.hid (fun c (hc : Le w.cell? c) => hF.mono hc)
  have HA : Hid (∀ c, Le w.cell? c → RInts c (.slice Aa x.args.length ka) x.args) := fun c hc => ⟨Aa, ka, rfl, ha1, ha2, ha3.mono monoInt hc⟩
  have HU : Hid (usesOf F x = ⟨[], [], [], [x.a], [x.dst]⟩) := by
    show usesOf F x = _
    simp [usesOf, ho, lent, hk]
  clear hF hx ha3
  rw [ho]
  clear ho
  go_enter Tryz.func37, Tryz.ntmps37
  go_upto_region 29 with fail
  generalize hW0 : World.alloc (World.alloc (World.alloc (World.alloc w _) _) _) _ = W0
  have bF : Bx W0 w.heap.size 29 #[.string F.name, .int .i64 mo, .int .i64 pa, .slice Ab nb cb, .int .i64 ar, .int .i64 F.result.kind, .int .i64 F.result.id, .slice Ar F.result.args.length kr, .slice Al F.locals.length kl, .slice Ak F.blocks.length kk, .slice At nt ct] := (by rw [← hW0]; repeat (first | (refine Bx.at0 _ _ _ ?_; (simp; done)) | apply Bx.alloc))
  have bX : Bx W0 (w.heap.size + 1) 55 #[.int .i64 14, .int .i64 x.dst, .int .i64 x.a, .int .i64 x.b, .int .i64 x.n, .slice Aa x.args.length ka, .slice Ay x.types.length ky] := (by rw [← hW0]; repeat (first | (refine Bx.at0 _ _ _ ?_; (simp; done)) | apply Bx.alloc))
  have bR : Bx W0 (w.heap.size + 1 + 1) 40 #[.slice none 0 0, .slice none 0 0, .slice none 0 0, .slice none 0 0, .slice none 0 0] := (by rw [← hW0]; repeat (first | (refine Bx.at0 _ _ _ ?_; (simp; done)) | apply Bx.alloc))
  have bU : Bx W0 (w.heap.size + 1 + 1 + 1) 40 #[.slice none 0 0, .slice none 0 0, .slice none 0 0, .slice none 0 0, .slice none 0 0] := (by rw [← hW0]; repeat (first | (refine Bx.at0 _ _ _ ?_; (simp; done)) | apply Bx.alloc))
  have HB0 : Hid (Below w.heap.size w W0) := by rw [← hW0]; repeat (first | apply Bl.alloc | exact Below.refl _ _)
  clear hW0
  have cF := bF.cell
  have cX := bX.cell
  have hfld := field25
  have BF := Lib.hid bF
  have BX := Lib.hid bX
  have BR := Lib.hid bR
  have BU := Lib.hid bU
  clear bF bX bR bU
  go_region_held3 (fun w' => w'.cell? ⟨w.heap.size, 0, none⟩ = some (.string F.name) ∧ w'.cell? ⟨w.heap.size, 1, none⟩ = some (.int .i64 mo) ∧ w'.cell? ⟨w.heap.size, 2, none⟩ = some (.int .i64 pa) ∧ w'.cell? ⟨w.heap.size, 3, none⟩ = some (.slice Ab nb cb) ∧ w'.cell? ⟨w.heap.size, 4, none⟩ = some (.int .i64 ar) ∧ w'.cell? ⟨w.heap.size, 5, none⟩ = some (.int .i64 F.result.kind) ∧ w'.cell? ⟨w.heap.size, 6, none⟩ = some (.int .i64 F.result.id) ∧ w'.cell? ⟨w.heap.size, 7, none⟩ = some (.slice Ar F.result.args.length kr) ∧ w'.cell? ⟨w.heap.size, 8, none⟩ = some (.slice Al F.locals.length kl) ∧ w'.cell? ⟨w.heap.size, 9, none⟩ = some (.slice Ak F.blocks.length kk) ∧ w'.cell? ⟨w.heap.size, 10, none⟩ = some (.slice At nt ct) ∧ w'.cell? ⟨w.heap.size + 1, 1, none⟩ = some (.int .i64 x.dst) ∧ w'.cell? ⟨w.heap.size + 1, 2, none⟩ = some (.int .i64 x.a))
    (first
      | go_keep
      | exact ⟨(Bx.far5 (b := w.heap.size + 1 + 1 + 1) BF2.out (by omega) _ _ _ _ _).cell 0, (Bx.far5 (b := w.heap.size + 1 + 1 + 1) BF2.out (by omega) _ _ _ _ _).cell 1, (Bx.far5 (b := w.heap.size + 1 + 1 + 1) BF2.out (by omega) _ _ _ _ _).cell 2, (Bx.far5 (b := w.heap.size + 1 + 1 + 1) BF2.out (by omega) _ _ _ _ _).cell 3, (Bx.far5 (b := w.heap.size + 1 + 1 + 1) BF2.out (by omega) _ _ _ _ _).cell 4, (Bx.far5 (b := w.heap.size + 1 + 1 + 1) BF2.out (by omega) _ _ _ _ _).cell 5, (Bx.far5 (b := w.heap.size + 1 + 1 + 1) BF2.out (by omega) _ _ _ _ _).cell 6, (Bx.far5 (b := w.heap.size + 1 + 1 + 1) BF2.out (by omega) _ _ _ _ _).cell 7, (Bx.far5 (b := w.heap.size + 1 + 1 + 1) BF2.out (by omega) _ _ _ _ _).cell 8, (Bx.far5 (b := w.heap.size + 1 + 1 + 1) BF2.out (by omega) _ _ _ _ _).cell 9, (Bx.far5 (b := w.heap.size + 1 + 1 + 1) BF2.out (by omega) _ _ _ _ _).cell 10, (Bx.far5 (b := w.heap.size + 1 + 1 + 1) BX2.out (by omega) _ _ _ _ _).cell 1, (Bx.far5 (b := w.heap.size + 1 + 1 + 1) BX2.out (by omega) _ _ _ _ _).cell 2⟩)
    (first
      | (go_at_call 50; refine (of_any _ F _ _ (HF.out _ (Bl.le (by repeat (first | apply Bl.alloc | apply Bl.drew | exact HB0.out))))).mono ?_; rintro e w1 ⟨⟨i1, va1, rfl⟩, hb1⟩; have bF1 := BF.out.drew.below hb1; have bX1 := BX.out.drew.below hb1; have BR1 := Lib.hid (BR.out.drew.below hb1); have BU1 := Lib.hid (BU.out.drew.below hb1); have HB1 := Lib.hid ((Bl.drew HB0.out).trans (hb1.mono HB0.out.size)); have cF1 := bF1.cell; have cX1 := bX1.cell; have BF1 := Lib.hid bF1; have BX1 := Lib.hid bX1; clear bF1 bX1 hb1)
      | (go_at_call 49; refine (lent_f _ _).mono ?_; rintro e w2 ⟨⟨rfl, bv⟩, hb2⟩; have BF2 := Lib.hid (BF1.out.below hb2); have BX2 := Lib.hid (BX1.out.below hb2); have bU2 := BU1.out.below hb2; have BR2 := Lib.hid (BR1.out.below hb2); have HB2 := Lib.hid (HB1.out.trans (hb2.mono HB1.out.size)); have cF2 := BF2.out.cell; have cX2 := BX2.out.cell; have cU2 := bU2.cell; have fU2 := bU2.frozen; have BU2 := Lib.hid bU2; have BV := Lib.hid bv; clear bv bU2 hb2))
  have LU1 := Lib.hid BU1.out.lt
  obtain ⟨B2, hB2⟩ : ∃ B2, B2 = w1.heap.size + 1 := ⟨_, rfl⟩
  rw [← hB2]
  have BV' : Hid (Bx w2 B2 3 #[.int .i64 x.a]) := by rw [hB2]; exact BV.out
  have HB2N : Hid (w.heap.size + 3 < B2) := by have := LU1.out; show w.heap.size + 3 < B2; omega
  generalize hW2 : World.setCell (World.setCell (World.setCell (World.setCell (World.setCell w2 _ _) _ _) _ _) _ _) _ _ = W2
  have bX2 : Bx W2 (w.heap.size + 1) 55 #[.int .i64 14, .int .i64 x.dst, .int .i64 x.a, .int .i64 x.b, .int .i64 x.n, .slice Aa x.args.length ka, .slice Ay x.types.length ky] := by rw [← hW2]; exact BX2.out.far5 (by omega) _ _ _ _ _
  have bR2 : Bx W2 (w.heap.size + 1 + 1) 40 #[.slice none 0 0, .slice none 0 0, .slice none 0 0, .slice none 0 0, .slice none 0 0] := by rw [← hW2]; exact BR2.out.far5 (by omega) _ _ _ _ _
  have bU2 : Bx W2 (w.heap.size + 1 + 1 + 1) 40 #[.slice none 0 0, .slice none 0 0, .slice none 0 0, .slice (some ⟨B2, 0, none⟩) 1 1, .slice none 0 0] := by rw [← hW2]; exact BU2.out.set5 _ _ _ _ _
  have CH2 : Hid (Chg [w.heap.size + 2, w.heap.size + 3] w2 W2) := by rw [← hW2]; exact (Chg.refl _ _).put5 (.inl (by simp)) _ _ _ _ _
  have RV := Lib.hid (rints_boxD [w.heap.size + 2, w.heap.size + 3] BV'.out (by have := HB2N.out; simp; omega))
  have HBE := Lib.hid HB2.out
  clear BF BX BR BU BR1 BU1 HB1 cF cX BF1 BX1 cF1 cX1 BF2 BX2 BR2 HB2 cF2 cX2 cU2 fU2 BU2 BV BV' LU1 hW2 hB2 hfld
  have cX := bX2.cell
  have cU := bU2.cell
  have fU := bU2.frozen
  have lU := bU2.lt
  have lR := bR2.lt
  go_upto_region 52 with fail
  clear cX cU fU
  obtain ⟨B4, hB4⟩ : ∃ B4, B4 = W2.heap.size := ⟨_, rfl⟩
  rw [← hB4]
  generalize hW3 : World.alloc (World.setCell W2 _ _) _ = W3
  have bR3 : Bx W3 (w.heap.size + 1 + 1) 40 #[.slice none 0 0, .slice none 0 0, .slice none 0 0, .slice none 0 0, .slice none 0 0] := by rw [← hW3]; exact (bR2.far (by simp) _).alloc _
  have bU3 : Bx W3 (w.heap.size + 1 + 1 + 1) 40 #[.slice none 0 0, .slice none 0 0, .slice none 0 0, .slice (some ⟨B2, 0, none⟩) 1 1, .slice (some ⟨B4, 0, none⟩) 1 1] := by rw [← hW3]; simpa using (bU2.set 4 _).alloc _
  have b4 : Bx W3 B4 3 #[.int .i64 x.dst] := by rw [← hW3]; exact Bx.at0 _ 3 _ (by simpa [World.setCell] using hB4)
  have CH3 : Hid (Chg [w.heap.size + 2, w.heap.size + 3] w2 W3) := by rw [← hW3]; exact (CH2.out.put (.inl (by simp)) _).allo _
  have RD := Lib.hid (rints_boxD [w.heap.size + 2, w.heap.size + 3] b4 (by simp; omega))
  clear hW3 bX2 bR2 bU2 CH2 lU lR b4 hB4
  have cR := bR3.cell
  have fR := bR3.frozen
  have cU := bU3.cell
  clear bR3 bU3
  go_wp2_with fail
  rw [HU.out]
  refine bodyPost_ret (v := ?v) ?h rfl ?r
  case h =>
    simp [results, Tryz.results37, go_sem, cR, fR, cU] <;> rfl
  case r =>
    refine ⟨⟨_, rfl, _, _, _, _, _, rfl, ?_, ?_, ?_, ?_, ?_⟩, ?_⟩
    · exact RSl.nil _ _ _
    · exact RSl.nil _ _ _
    · exact RSl.nil _ _ _
    · exact RV.out.mono monoInt (Chg.le' (by repeat (first | refine Chg.put ?_ (.inl (by simp)) _ | exact CH3.out)))
    · exact RD.out.mono monoInt (Chg.le' (by repeat (first | refine Chg.put ?_ (.inl (by simp)) _ | exact Chg.refl _ W3)))
    · exact Bl.chg HBE.out (D := [w.heap.size + 2, w.heap.size + 3]) (by repeat (first | refine Chg.put ?_ (.inl (by simp)) _ | exact CH3.out)) (by simp)
set_option maxHeartbeats 4000000 in
set_option maxRecDepth 100000 in
theorem uses_op15t (v vx : Value) (F : Fn) (x : Ins) (w : World) (hF : RFn w.cell? v F) (hx : RIns w.cell? vx x) (hn : x.args.length ≤ 100000) (ho : x.op = 15) (hk : (kindOf F x.a == 7) = true) :
    Calls Tryz.prog 37 #[v, vx] w (UsPost w (usesOf F x)) := by
  obtain ⟨mo, pa, ar, vb, vr, vl', vk, vt, Ab, At, nb, cb, nt, ct, rfl, rfl, rfl, m1, m2, ⟨Ar, kr, rfl, hr1, hr2, hr3⟩, ⟨Al, kl, rfl, h1, h2, hL⟩, ⟨Ak, kk, rfl, hk1, hk2, hk3⟩⟩ := id hF
  obtain ⟨va, vy, rfl, ⟨Aa, ka, rfl, ha1, ha2, ha3⟩, ⟨Ay, ky, rfl, hy1, hy2, hy3⟩⟩ := id hx
  clear hr3 hk3 hL hy3
  have HF := Lib.hid (fun c (hc : Le w.cell? c) => hF.mono hc)
  have HA : Hid (∀ c, Le w.cell? c → RInts c (.slice Aa x.args.length ka) x.args) := fun c hc => ⟨Aa, ka, rfl, ha1, ha2, ha3.mono monoInt hc⟩
  have HU : Hid (usesOf F x = ⟨[], [], [x.a], [], x.args⟩) := by
    show usesOf F x = _
    simp [usesOf, ho, lent, hk]
  clear hF hx ha3
  rw [ho]
  clear ho
  go_enter Tryz.func37, Tryz.ntmps37
  go_upto_region 31 with fail
  generalize hW0 : World.alloc (World.alloc (World.alloc (World.alloc w _) _) _) _ = W0
  have bF : Bx W0 w.heap.size 29 #[.string F.name, .int .i64 mo, .int .i64 pa, .slice Ab nb cb, .int .i64 ar, .int .i64 F.result.kind, .int .i64 F.result.id, .slice Ar F.result.args.length kr, .slice Al F.locals.length kl, .slice Ak F.blocks.length kk, .slice At nt ct] := (by rw [← hW0]; repeat (first | (refine Bx.at0 _ _ _ ?_; (simp; done)) | apply Bx.alloc))
  have bX : Bx W0 (w.heap.size + 1) 55 #[.int .i64 15, .int .i64 x.dst, .int .i64 x.a, .int .i64 x.b, .int .i64 x.n, .slice Aa x.args.length ka, .slice Ay x.types.length ky] := (by rw [← hW0]; repeat (first | (refine Bx.at0 _ _ _ ?_; (simp; done)) | apply Bx.alloc))
  have bR : Bx W0 (w.heap.size + 1 + 1) 40 #[.slice none 0 0, .slice none 0 0, .slice none 0 0, .slice none 0 0, .slice none 0 0] := (by rw [← hW0]; repeat (first | (refine Bx.at0 _ _ _ ?_; (simp; done)) | apply Bx.alloc))
  have bU : Bx W0 (w.heap.size + 1 + 1 + 1) 40 #[.slice none 0 0, .slice none 0 0, .slice none 0 0, .slice none 0 0, .slice none 0 0] := (by rw [← hW0]; repeat (first | (refine Bx.at0 _ _ _ ?_; (simp; done)) | apply Bx.alloc))
  have HB0 : Hid (Below w.heap.size w W0) := by rw [← hW0]; repeat (first | apply Bl.alloc | exact Below.refl _ _)
  clear hW0
  have cF := bF.cell
  have cX := bX.cell
  have hfld := field25
  have BF := Lib.hid bF
  have BX := Lib.hid bX
  have BR := Lib.hid bR
  have BU := Lib.hid bU
  clear bF bX bR bU
  go_region_held3 (fun w' => w'.cell? ⟨w.heap.size, 0, none⟩ = some (.string F.name) ∧ w'.cell? ⟨w.heap.size, 1, none⟩ = some (.int .i64 mo) ∧ w'.cell? ⟨w.heap.size, 2, none⟩ = some (.int .i64 pa) ∧ w'.cell? ⟨w.heap.size, 3, none⟩ = some (.slice Ab nb cb) ∧ w'.cell? ⟨w.heap.size, 4, none⟩ = some (.int .i64 ar) ∧ w'.cell? ⟨w.heap.size, 5, none⟩ = some (.int .i64 F.result.kind) ∧ w'.cell? ⟨w.heap.size, 6, none⟩ = some (.int .i64 F.result.id) ∧ w'.cell? ⟨w.heap.size, 7, none⟩ = some (.slice Ar F.result.args.length kr) ∧ w'.cell? ⟨w.heap.size, 8, none⟩ = some (.slice Al F.locals.length kl) ∧ w'.cell? ⟨w.heap.size, 9, none⟩ = some (.slice Ak F.blocks.length kk) ∧ w'.cell? ⟨w.heap.size, 10, none⟩ = some (.slice At nt ct) ∧ w'.cell? ⟨w.heap.size + 1, 2, none⟩ = some (.int .i64 x.a))
    (first
      | go_keep
      | exact ⟨(Bx.far5 (b := w.heap.size + 1 + 1 + 1) BF2.out (by omega) _ _ _ _ _).cell 0, (Bx.far5 (b := w.heap.size + 1 + 1 + 1) BF2.out (by omega) _ _ _ _ _).cell 1, (Bx.far5 (b := w.heap.size + 1 + 1 + 1) BF2.out (by omega) _ _ _ _ _).cell 2, (Bx.far5 (b := w.heap.size + 1 + 1 + 1) BF2.out (by omega) _ _ _ _ _).cell 3, (Bx.far5 (b := w.heap.size + 1 + 1 + 1) BF2.out (by omega) _ _ _ _ _).cell 4, (Bx.far5 (b := w.heap.size + 1 + 1 + 1) BF2.out (by omega) _ _ _ _ _).cell 5, (Bx.far5 (b := w.heap.size + 1 + 1 + 1) BF2.out (by omega) _ _ _ _ _).cell 6, (Bx.far5 (b := w.heap.size + 1 + 1 + 1) BF2.out (by omega) _ _ _ _ _).cell 7, (Bx.far5 (b := w.heap.size + 1 + 1 + 1) BF2.out (by omega) _ _ _ _ _).cell 8, (Bx.far5 (b := w.heap.size + 1 + 1 + 1) BF2.out (by omega) _ _ _ _ _).cell 9, (Bx.far5 (b := w.heap.size + 1 + 1 + 1) BF2.out (by omega) _ _ _ _ _).cell 10, (Bx.far5 (b := w.heap.size + 1 + 1 + 1) BX2.out (by omega) _ _ _ _ _).cell 2⟩)
    (first
      | (go_at_call 50; refine (of_any _ F _ _ (HF.out _ (Bl.le (by repeat (first | apply Bl.alloc | apply Bl.drew | exact HB0.out))))).mono ?_; rintro e w1 ⟨⟨i1, va1, rfl⟩, hb1⟩; have bF1 := BF.out.drew.below hb1; have bX1 := BX.out.drew.below hb1; have BR1 := Lib.hid (BR.out.drew.below hb1); have BU1 := Lib.hid (BU.out.drew.below hb1); have HB1 := Lib.hid ((Bl.drew HB0.out).trans (hb1.mono HB0.out.size)); have cF1 := bF1.cell; have cX1 := bX1.cell; have BF1 := Lib.hid bF1; have BX1 := Lib.hid bX1; clear bF1 bX1 hb1)
      | (go_at_call 49; refine (lent_t _ _).mono ?_; rintro e w2 ⟨⟨rfl, bv⟩, hb2⟩; have BF2 := Lib.hid (BF1.out.below hb2); have BX2 := Lib.hid (BX1.out.below hb2); have bU2 := BU1.out.below hb2; have BR2 := Lib.hid (BR1.out.below hb2); have HB2 := Lib.hid (HB1.out.trans (hb2.mono HB1.out.size)); have cF2 := BF2.out.cell; have cX2 := BX2.out.cell; have cU2 := bU2.cell; have fU2 := bU2.frozen; have BU2 := Lib.hid bU2; have BV := Lib.hid bv; clear bv bU2 hb2))
  have LU1 := Lib.hid BU1.out.lt
  obtain ⟨B2, hB2⟩ : ∃ B2, B2 = w1.heap.size + 1 := ⟨_, rfl⟩
  rw [← hB2]
  have BV' : Hid (Bx w2 B2 3 #[.int .i64 x.a]) := by rw [hB2]; exact BV.out
  have HB2N : Hid (w.heap.size + 3 < B2) := by have := LU1.out; show w.heap.size + 3 < B2; omega
  generalize hW2 : World.setCell (World.setCell (World.setCell (World.setCell (World.setCell w2 _ _) _ _) _ _) _ _) _ _ = W2
  have bX2 : Bx W2 (w.heap.size + 1) 55 #[.int .i64 15, .int .i64 x.dst, .int .i64 x.a, .int .i64 x.b, .int .i64 x.n, .slice Aa x.args.length ka, .slice Ay x.types.length ky] := by rw [← hW2]; exact BX2.out.far5 (by omega) _ _ _ _ _
  have bR2 : Bx W2 (w.heap.size + 1 + 1) 40 #[.slice none 0 0, .slice none 0 0, .slice none 0 0, .slice none 0 0, .slice none 0 0] := by rw [← hW2]; exact BR2.out.far5 (by omega) _ _ _ _ _
  have bU2 : Bx W2 (w.heap.size + 1 + 1 + 1) 40 #[.slice none 0 0, .slice none 0 0, .slice (some ⟨B2, 0, none⟩) 1 1, .slice none 0 0, .slice none 0 0] := by rw [← hW2]; exact BU2.out.set5 _ _ _ _ _
  have CH2 : Hid (Chg [w.heap.size + 2, w.heap.size + 3] w2 W2) := by rw [← hW2]; exact (Chg.refl _ _).put5 (.inl (by simp)) _ _ _ _ _
  have RV := Lib.hid (rints_boxD [w.heap.size + 2, w.heap.size + 3] BV'.out (by have := HB2N.out; simp; omega))
  have HBE := Lib.hid HB2.out
  clear BF BX BR BU BR1 BU1 HB1 cF cX BF1 BX1 cF1 cX1 BF2 BX2 BR2 HB2 cF2 cX2 cU2 fU2 BU2 BV BV' LU1 hW2 hB2 hfld
  have cX := bX2.cell
  have cU := bU2.cell
  have fU := bU2.frozen
  have lU := bU2.lt
  have lR := bR2.lt
  go_upto_region 33 with fail
  clear cX cU fU
  generalize hW3 : World.setCell W2 _ _ = W3
  have bR3 : Bx W3 (w.heap.size + 1 + 1) 40 #[.slice none 0 0, .slice none 0 0, .slice none 0 0, .slice none 0 0, .slice none 0 0] := by rw [← hW3]; exact bR2.far (by simp) _
  have bU3 : Bx W3 (w.heap.size + 1 + 1 + 1) 40 #[.slice none 0 0, .slice none 0 0, .slice (some ⟨B2, 0, none⟩) 1 1, .slice none 0 0, .slice Aa x.args.length ka] := by rw [← hW3]; simpa using bU2.set 4 _
  have CH3 : Hid (Chg [w.heap.size + 2, w.heap.size + 3] w2 W3) := by rw [← hW3]; exact CH2.out.put (.inl (by simp)) _
  clear hW3 bX2 bR2 bU2 CH2 lU lR
  have cR := bR3.cell
  have fR := bR3.frozen
  have cU := bU3.cell
  clear bR3 bU3
  go_wp2_with fail
  rw [HU.out]
  refine bodyPost_ret (v := ?v) ?h rfl ?r
  case h =>
    simp [results, Tryz.results37, go_sem, cR, fR, cU] <;> rfl
  case r =>
    refine ⟨⟨_, rfl, _, _, _, _, _, rfl, ?_, ?_, ?_, ?_, ?_⟩, ?_⟩
    · exact RSl.nil _ _ _
    · exact RSl.nil _ _ _
    · exact RV.out.mono monoInt (Chg.le' (by repeat (first | refine Chg.put ?_ (.inl (by simp)) _ | exact CH3.out)))
    · exact RSl.nil _ _ _
    · exact HA.out _ (Bl.le (Bl.chg HBE.out (D := [w.heap.size + 2, w.heap.size + 3]) (by repeat (first | refine Chg.put ?_ (.inl (by simp)) _ | exact CH3.out)) (by simp)))
    · exact Bl.chg HBE.out (D := [w.heap.size + 2, w.heap.size + 3]) (by repeat (first | refine Chg.put ?_ (.inl (by simp)) _ | exact CH3.out)) (by simp)
set_option maxHeartbeats 4000000 in
set_option maxRecDepth 100000 in
theorem uses_op15f (v vx : Value) (F : Fn) (x : Ins) (w : World) (hF : RFn w.cell? v F) (hx : RIns w.cell? vx x) (hn : x.args.length ≤ 100000) (ho : x.op = 15) (hk : (kindOf F x.a == 7) = false) :
    Calls Tryz.prog 37 #[v, vx] w (UsPost w (usesOf F x)) := by
  obtain ⟨mo, pa, ar, vb, vr, vl', vk, vt, Ab, At, nb, cb, nt, ct, rfl, rfl, rfl, m1, m2, ⟨Ar, kr, rfl, hr1, hr2, hr3⟩, ⟨Al, kl, rfl, h1, h2, hL⟩, ⟨Ak, kk, rfl, hk1, hk2, hk3⟩⟩ := id hF
  obtain ⟨va, vy, rfl, ⟨Aa, ka, rfl, ha1, ha2, ha3⟩, ⟨Ay, ky, rfl, hy1, hy2, hy3⟩⟩ := id hx
  clear hr3 hk3 hL hy3
  have HF := Lib.hid (fun c (hc : Le w.cell? c) => hF.mono hc)
  have HA : Hid (∀ c, Le w.cell? c → RInts c (.slice Aa x.args.length ka) x.args) := fun c hc => ⟨Aa, ka, rfl, ha1, ha2, ha3.mono monoInt hc⟩
  have HU : Hid (usesOf F x = ⟨[], [], [], [x.a], x.args⟩) := by
    show usesOf F x = _
    simp [usesOf, ho, lent, hk]
  clear hF hx ha3
  rw [ho]
  clear ho
  go_enter Tryz.func37, Tryz.ntmps37
  go_upto_region 31 with fail
  generalize hW0 : World.alloc (World.alloc (World.alloc (World.alloc w _) _) _) _ = W0
  have bF : Bx W0 w.heap.size 29 #[.string F.name, .int .i64 mo, .int .i64 pa, .slice Ab nb cb, .int .i64 ar, .int .i64 F.result.kind, .int .i64 F.result.id, .slice Ar F.result.args.length kr, .slice Al F.locals.length kl, .slice Ak F.blocks.length kk, .slice At nt ct] := (by rw [← hW0]; repeat (first | (refine Bx.at0 _ _ _ ?_; (simp; done)) | apply Bx.alloc))
  have bX : Bx W0 (w.heap.size + 1) 55 #[.int .i64 15, .int .i64 x.dst, .int .i64 x.a, .int .i64 x.b, .int .i64 x.n, .slice Aa x.args.length ka, .slice Ay x.types.length ky] := (by rw [← hW0]; repeat (first | (refine Bx.at0 _ _ _ ?_; (simp; done)) | apply Bx.alloc))
  have bR : Bx W0 (w.heap.size + 1 + 1) 40 #[.slice none 0 0, .slice none 0 0, .slice none 0 0, .slice none 0 0, .slice none 0 0] := (by rw [← hW0]; repeat (first | (refine Bx.at0 _ _ _ ?_; (simp; done)) | apply Bx.alloc))
  have bU : Bx W0 (w.heap.size + 1 + 1 + 1) 40 #[.slice none 0 0, .slice none 0 0, .slice none 0 0, .slice none 0 0, .slice none 0 0] := (by rw [← hW0]; repeat (first | (refine Bx.at0 _ _ _ ?_; (simp; done)) | apply Bx.alloc))
  have HB0 : Hid (Below w.heap.size w W0) := by rw [← hW0]; repeat (first | apply Bl.alloc | exact Below.refl _ _)
  clear hW0
  have cF := bF.cell
  have cX := bX.cell
  have hfld := field25
  have BF := Lib.hid bF
  have BX := Lib.hid bX
  have BR := Lib.hid bR
  have BU := Lib.hid bU
  clear bF bX bR bU
  go_region_held3 (fun w' => w'.cell? ⟨w.heap.size, 0, none⟩ = some (.string F.name) ∧ w'.cell? ⟨w.heap.size, 1, none⟩ = some (.int .i64 mo) ∧ w'.cell? ⟨w.heap.size, 2, none⟩ = some (.int .i64 pa) ∧ w'.cell? ⟨w.heap.size, 3, none⟩ = some (.slice Ab nb cb) ∧ w'.cell? ⟨w.heap.size, 4, none⟩ = some (.int .i64 ar) ∧ w'.cell? ⟨w.heap.size, 5, none⟩ = some (.int .i64 F.result.kind) ∧ w'.cell? ⟨w.heap.size, 6, none⟩ = some (.int .i64 F.result.id) ∧ w'.cell? ⟨w.heap.size, 7, none⟩ = some (.slice Ar F.result.args.length kr) ∧ w'.cell? ⟨w.heap.size, 8, none⟩ = some (.slice Al F.locals.length kl) ∧ w'.cell? ⟨w.heap.size, 9, none⟩ = some (.slice Ak F.blocks.length kk) ∧ w'.cell? ⟨w.heap.size, 10, none⟩ = some (.slice At nt ct) ∧ w'.cell? ⟨w.heap.size + 1, 2, none⟩ = some (.int .i64 x.a))
    (first
      | go_keep
      | exact ⟨(Bx.far5 (b := w.heap.size + 1 + 1 + 1) BF2.out (by omega) _ _ _ _ _).cell 0, (Bx.far5 (b := w.heap.size + 1 + 1 + 1) BF2.out (by omega) _ _ _ _ _).cell 1, (Bx.far5 (b := w.heap.size + 1 + 1 + 1) BF2.out (by omega) _ _ _ _ _).cell 2, (Bx.far5 (b := w.heap.size + 1 + 1 + 1) BF2.out (by omega) _ _ _ _ _).cell 3, (Bx.far5 (b := w.heap.size + 1 + 1 + 1) BF2.out (by omega) _ _ _ _ _).cell 4, (Bx.far5 (b := w.heap.size + 1 + 1 + 1) BF2.out (by omega) _ _ _ _ _).cell 5, (Bx.far5 (b := w.heap.size + 1 + 1 + 1) BF2.out (by omega) _ _ _ _ _).cell 6, (Bx.far5 (b := w.heap.size + 1 + 1 + 1) BF2.out (by omega) _ _ _ _ _).cell 7, (Bx.far5 (b := w.heap.size + 1 + 1 + 1) BF2.out (by omega) _ _ _ _ _).cell 8, (Bx.far5 (b := w.heap.size + 1 + 1 + 1) BF2.out (by omega) _ _ _ _ _).cell 9, (Bx.far5 (b := w.heap.size + 1 + 1 + 1) BF2.out (by omega) _ _ _ _ _).cell 10, (Bx.far5 (b := w.heap.size + 1 + 1 + 1) BX2.out (by omega) _ _ _ _ _).cell 2⟩)
    (first
      | (go_at_call 50; refine (of_any _ F _ _ (HF.out _ (Bl.le (by repeat (first | apply Bl.alloc | apply Bl.drew | exact HB0.out))))).mono ?_; rintro e w1 ⟨⟨i1, va1, rfl⟩, hb1⟩; have bF1 := BF.out.drew.below hb1; have bX1 := BX.out.drew.below hb1; have BR1 := Lib.hid (BR.out.drew.below hb1); have BU1 := Lib.hid (BU.out.drew.below hb1); have HB1 := Lib.hid ((Bl.drew HB0.out).trans (hb1.mono HB0.out.size)); have cF1 := bF1.cell; have cX1 := bX1.cell; have BF1 := Lib.hid bF1; have BX1 := Lib.hid bX1; clear bF1 bX1 hb1)
      | (go_at_call 49; refine (lent_f _ _).mono ?_; rintro e w2 ⟨⟨rfl, bv⟩, hb2⟩; have BF2 := Lib.hid (BF1.out.below hb2); have BX2 := Lib.hid (BX1.out.below hb2); have bU2 := BU1.out.below hb2; have BR2 := Lib.hid (BR1.out.below hb2); have HB2 := Lib.hid (HB1.out.trans (hb2.mono HB1.out.size)); have cF2 := BF2.out.cell; have cX2 := BX2.out.cell; have cU2 := bU2.cell; have fU2 := bU2.frozen; have BU2 := Lib.hid bU2; have BV := Lib.hid bv; clear bv bU2 hb2))
  have LU1 := Lib.hid BU1.out.lt
  obtain ⟨B2, hB2⟩ : ∃ B2, B2 = w1.heap.size + 1 := ⟨_, rfl⟩
  rw [← hB2]
  have BV' : Hid (Bx w2 B2 3 #[.int .i64 x.a]) := by rw [hB2]; exact BV.out
  have HB2N : Hid (w.heap.size + 3 < B2) := by have := LU1.out; show w.heap.size + 3 < B2; omega
  generalize hW2 : World.setCell (World.setCell (World.setCell (World.setCell (World.setCell w2 _ _) _ _) _ _) _ _) _ _ = W2
  have bX2 : Bx W2 (w.heap.size + 1) 55 #[.int .i64 15, .int .i64 x.dst, .int .i64 x.a, .int .i64 x.b, .int .i64 x.n, .slice Aa x.args.length ka, .slice Ay x.types.length ky] := by rw [← hW2]; exact BX2.out.far5 (by omega) _ _ _ _ _
  have bR2 : Bx W2 (w.heap.size + 1 + 1) 40 #[.slice none 0 0, .slice none 0 0, .slice none 0 0, .slice none 0 0, .slice none 0 0] := by rw [← hW2]; exact BR2.out.far5 (by omega) _ _ _ _ _
  have bU2 : Bx W2 (w.heap.size + 1 + 1 + 1) 40 #[.slice none 0 0, .slice none 0 0, .slice none 0 0, .slice (some ⟨B2, 0, none⟩) 1 1, .slice none 0 0] := by rw [← hW2]; exact BU2.out.set5 _ _ _ _ _
  have CH2 : Hid (Chg [w.heap.size + 2, w.heap.size + 3] w2 W2) := by rw [← hW2]; exact (Chg.refl _ _).put5 (.inl (by simp)) _ _ _ _ _
  have RV := Lib.hid (rints_boxD [w.heap.size + 2, w.heap.size + 3] BV'.out (by have := HB2N.out; simp; omega))
  have HBE := Lib.hid HB2.out
  clear BF BX BR BU BR1 BU1 HB1 cF cX BF1 BX1 cF1 cX1 BF2 BX2 BR2 HB2 cF2 cX2 cU2 fU2 BU2 BV BV' LU1 hW2 hB2 hfld
  have cX := bX2.cell
  have cU := bU2.cell
  have fU := bU2.frozen
  have lU := bU2.lt
  have lR := bR2.lt
  go_upto_region 33 with fail
  clear cX cU fU
  generalize hW3 : World.setCell W2 _ _ = W3
  have bR3 : Bx W3 (w.heap.size + 1 + 1) 40 #[.slice none 0 0, .slice none 0 0, .slice none 0 0, .slice none 0 0, .slice none 0 0] := by rw [← hW3]; exact bR2.far (by simp) _
  have bU3 : Bx W3 (w.heap.size + 1 + 1 + 1) 40 #[.slice none 0 0, .slice none 0 0, .slice none 0 0, .slice (some ⟨B2, 0, none⟩) 1 1, .slice Aa x.args.length ka] := by rw [← hW3]; simpa using bU2.set 4 _
  have CH3 : Hid (Chg [w.heap.size + 2, w.heap.size + 3] w2 W3) := by rw [← hW3]; exact CH2.out.put (.inl (by simp)) _
  clear hW3 bX2 bR2 bU2 CH2 lU lR
  have cR := bR3.cell
  have fR := bR3.frozen
  have cU := bU3.cell
  clear bR3 bU3
  go_wp2_with fail
  rw [HU.out]
  refine bodyPost_ret (v := ?v) ?h rfl ?r
  case h =>
    simp [results, Tryz.results37, go_sem, cR, fR, cU] <;> rfl
  case r =>
    refine ⟨⟨_, rfl, _, _, _, _, _, rfl, ?_, ?_, ?_, ?_, ?_⟩, ?_⟩
    · exact RSl.nil _ _ _
    · exact RSl.nil _ _ _
    · exact RSl.nil _ _ _
    · exact RV.out.mono monoInt (Chg.le' (by repeat (first | refine Chg.put ?_ (.inl (by simp)) _ | exact CH3.out)))
    · exact HA.out _ (Bl.le (Bl.chg HBE.out (D := [w.heap.size + 2, w.heap.size + 3]) (by repeat (first | refine Chg.put ?_ (.inl (by simp)) _ | exact CH3.out)) (by simp)))
    · exact Bl.chg HBE.out (D := [w.heap.size + 2, w.heap.size + 3]) (by repeat (first | refine Chg.put ?_ (.inl (by simp)) _ | exact CH3.out)) (by simp)
end Go.Proofs.YtdkjkgokllmkmaaGreatDoor.Lv
