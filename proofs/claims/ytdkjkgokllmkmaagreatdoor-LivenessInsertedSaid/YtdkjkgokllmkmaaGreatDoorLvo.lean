/- Walks: graph's functions that tell the uses of an instruction. (printed by geno.py) -/
import Derived.Test.YtdkjkgokllmkmaaGreatDoorLvn
namespace Go.Proofs.YtdkjkgokllmkmaaGreatDoor.Lv
open Go.RowKit
set_option linter.unusedVariables false
set_option linter.unusedSimpArgs false
set_option maxHeartbeats 4000000 in
set_option maxRecDepth 100000 in
theorem glends_any (v vx vd : Value) (F : Fn) (x : Ins) (by_ : Int) (defs : List Int) (w : World) (hF : RFn w.cell? v F) (hx : RIns w.cell? vx x) (hd : RInts w.cell? vd defs) :
    Calls Tryz.prog 108 #[v, vx, .int .i64 by_, vd] w (UsPost w (lent F x.a by_ defs)) := by
  obtain ⟨mo, pa, ar, vb, vr, vl', vk, vt, Ab, At, nb, cb, nt, ct, rfl, rfl, rfl, m1, m2, ⟨Ar, kr, rfl, hr1, hr2, hr3⟩, ⟨Al, kl, rfl, h1, h2, hL⟩, ⟨Ak, kk, rfl, hk1, hk2, hk3⟩⟩ := id hF
  obtain ⟨va, vy, rfl, ⟨Aa, ka, rfl, ha1, ha2, ha3⟩, ⟨Ay, ky, rfl, hy1, hy2, hy3⟩⟩ := id hx
  obtain ⟨Ad, kd, rfl, hd1, hd2, hd3⟩ := id hd
  have HD : Hid (∀ c, Le w.cell? c → RInts c (.slice Ad defs.length kd) defs) := fun c hc => ⟨Ad, kd, rfl, hd1, hd2, hd3.mono monoInt hc⟩
  have HLO : Hid (RRow KTy 3 w.cell? Al F.locals) := hL
  clear hr3 hk3 hL hy3 hF hx ha3 hd3 hd
  by_cases hin : 0 ≤ by_ ∧ by_ < F.locals.length
  · obtain ⟨n, rfl⟩ := Int.eq_ofNat_of_zero_le hin.1
    have hn1 : n < F.locals.length := by omega
    have hn2 : (n : Int) < (F.locals.length : Int) := by omega
    obtain ⟨al, va, rfl, c0, c1, c2, ⟨A2', k2', rfl, _, _, _⟩⟩ := HLO.out.ty_at n hn1
    have hkd : kindOf F n = (F.locals.getD n default).kind := by unfold kindOf; rw [if_pos hin]; rfl
    obtain ⟨ty, hty⟩ : ∃ ty, ty = F.locals.getD n default := ⟨_, rfl⟩
    rw [← hty] at hkd c0 c1 c2
    clear hty
    have HB : Hid ((decide ((0 : Int) ≤ (n : Int)) && decide ((n : Int) < (F.locals.length : Int))) = true) := by simp [Hid, hn1]
    clear hin
    by_cases hc7 : ty.kind = 7
    · have HU : Hid (lent F x.a n defs = ⟨[], [], [x.a], [], defs⟩) := by
        show lent F x.a n defs = _
        simp [lent, hkd, hc7]
      rw [hc7] at c0
      clear hkd hc7
      go_enter Tryz.func108, Tryz.ntmps108
      go_upto_region 1 with fail
      generalize hW : World.alloc (World.alloc (World.alloc w _) _) _ = W
      have HB0 : Hid (Below w.heap.size w W) := by rw [← hW]; repeat (first | apply Bl.alloc | exact Below.refl _ _)
      have bF : Bx W w.heap.size 29 #[.string F.name, .int .i64 mo, .int .i64 pa, .slice Ab nb cb, .int .i64 ar, .int .i64 F.result.kind, .int .i64 F.result.id, .slice Ar F.result.args.length kr, .slice (some al) F.locals.length kl, .slice Ak F.blocks.length kk, .slice At nt ct] := (by rw [← hW]; repeat (first | (refine Bx.at0 _ _ _ ?_; (simp; done)) | apply Bx.alloc))
      have bX : Bx W (w.heap.size + 1) 55 #[.int .i64 x.op, .int .i64 x.dst, .int .i64 x.a, .int .i64 x.b, .int .i64 x.n, .slice Aa x.args.length ka, .slice Ay x.types.length ky] := (by rw [← hW]; repeat (first | (refine Bx.at0 _ _ _ ?_; (simp; done)) | apply Bx.alloc))
      have bR : Bx W (w.heap.size + 1 + 1) 40 #[.slice none 0 0, .slice none 0 0, .slice none 0 0, .slice none 0 0, .slice none 0 0] := (by rw [← hW]; repeat (first | (refine Bx.at0 _ _ _ ?_; (simp; done)) | apply Bx.alloc))
      clear hW
      have d0 := Bl.le HB0.out _ _ c0
      clear c0 c1 c2
      have cF := bF.cell
      have cX := bX.cell
      have cR := bR.cell
      have fR := bR.frozen
      have lX := bX.lt
      have lR := bR.lt
      go_wp2_with fail
      refine (gindex_any _ _ _ _ _).mono ?_
      rintro e w1 ⟨rfl, rfl⟩
      rw [HB.out]
      clear HB
      go_wp2_with fail
      rw [HU.out]
      generalize hW2 : World.alloc (World.setCell (World.setCell (World.setCell (World.setCell (World.setCell w1 _ _) _ _) _ _) _ _) _ _) _ = W2
      have bR2 : Bx W2 (w.heap.size + 1 + 1) 40 #[.slice none 0 0, .slice none 0 0, .slice (some ⟨w1.heap.size, 0, none⟩) 1 1, .slice none 0 0, .slice Ad defs.length kd] := by rw [← hW2]; exact (bR.set5 _ _ _ _ _).alloc _
      have bA2 : Bx W2 w1.heap.size 3 #[.int .i64 x.a] := by rw [← hW2]; exact Bx.at0 _ _ _ (by simp [World.setCell])
      have HB2 : Hid (Below w.heap.size w W2) := by rw [← hW2]; exact Bl.alloc (Bl.chg HB0.out (D := [w.heap.size + 2]) ((Chg.refl _ _).put5 (.inl (by simp)) _ _ _ _ _) (by simp)) _
      clear hW2 cF cX cR fR bF bX bR
      have cR := bR2.cell
      have fR := bR2.frozen
      refine bodyPost_ret (v := ?v0) ?h0 rfl ?r0
      case h0 => simp [results, Tryz.results108, go_sem, cR, fR] <;> rfl
      case r0 =>
        refine ⟨⟨_, rfl, _, _, _, _, _, rfl, RSl.nil _ _ _, RSl.nil _ _ _, rints_box1 ?b0, RSl.nil _ _ _, HD.out _ (Bl.le ?c0)⟩, ?d0⟩
        case b0 => exact bA2
        case c0 => exact HB2.out
        case d0 => exact HB2.out
    · have HU : Hid (lent F x.a n defs = ⟨[], [], [], [x.a], defs⟩) := by
        show lent F x.a n defs = _
        simp [lent, hkd, hc7]
      have hc7' : (ty.kind == 7) = false := by simpa using hc7
      clear hkd hc7
      go_enter Tryz.func108, Tryz.ntmps108
      go_upto_region 1 with fail
      generalize hW : World.alloc (World.alloc (World.alloc w _) _) _ = W
      have HB0 : Hid (Below w.heap.size w W) := by rw [← hW]; repeat (first | apply Bl.alloc | exact Below.refl _ _)
      have bF : Bx W w.heap.size 29 #[.string F.name, .int .i64 mo, .int .i64 pa, .slice Ab nb cb, .int .i64 ar, .int .i64 F.result.kind, .int .i64 F.result.id, .slice Ar F.result.args.length kr, .slice (some al) F.locals.length kl, .slice Ak F.blocks.length kk, .slice At nt ct] := (by rw [← hW]; repeat (first | (refine Bx.at0 _ _ _ ?_; (simp; done)) | apply Bx.alloc))
      have bX : Bx W (w.heap.size + 1) 55 #[.int .i64 x.op, .int .i64 x.dst, .int .i64 x.a, .int .i64 x.b, .int .i64 x.n, .slice Aa x.args.length ka, .slice Ay x.types.length ky] := (by rw [← hW]; repeat (first | (refine Bx.at0 _ _ _ ?_; (simp; done)) | apply Bx.alloc))
      have bR : Bx W (w.heap.size + 1 + 1) 40 #[.slice none 0 0, .slice none 0 0, .slice none 0 0, .slice none 0 0, .slice none 0 0] := (by rw [← hW]; repeat (first | (refine Bx.at0 _ _ _ ?_; (simp; done)) | apply Bx.alloc))
      clear hW
      have d0 := Bl.le HB0.out _ _ c0
      clear c0 c1 c2
      have cF := bF.cell
      have cX := bX.cell
      have cR := bR.cell
      have fR := bR.frozen
      have lX := bX.lt
      have lR := bR.lt
      go_wp2_with fail
      refine (gindex_any _ _ _ _ _).mono ?_
      rintro e w1 ⟨rfl, rfl⟩
      rw [HB.out]
      clear HB
      go_wp2_with fail
      rw [HU.out]
      generalize hW2 : World.alloc (World.setCell (World.setCell (World.setCell (World.setCell (World.setCell w1 _ _) _ _) _ _) _ _) _ _) _ = W2
      have bR2 : Bx W2 (w.heap.size + 1 + 1) 40 #[.slice none 0 0, .slice none 0 0, .slice none 0 0, .slice (some ⟨w1.heap.size, 0, none⟩) 1 1, .slice Ad defs.length kd] := by rw [← hW2]; exact (bR.set5 _ _ _ _ _).alloc _
      have bA2 : Bx W2 w1.heap.size 3 #[.int .i64 x.a] := by rw [← hW2]; exact Bx.at0 _ _ _ (by simp [World.setCell])
      have HB2 : Hid (Below w.heap.size w W2) := by rw [← hW2]; exact Bl.alloc (Bl.chg HB0.out (D := [w.heap.size + 2]) ((Chg.refl _ _).put5 (.inl (by simp)) _ _ _ _ _) (by simp)) _
      clear hW2 cF cX cR fR bF bX bR
      have cR := bR2.cell
      have fR := bR2.frozen
      refine bodyPost_ret (v := ?v1) ?h1 rfl ?r1
      case h1 => simp [results, Tryz.results108, go_sem, cR, fR] <;> rfl
      case r1 =>
        refine ⟨⟨_, rfl, _, _, _, _, _, rfl, RSl.nil _ _ _, RSl.nil _ _ _, RSl.nil _ _ _, rints_box1 ?b1, HD.out _ (Bl.le ?c1)⟩, ?d1⟩
        case b1 => exact bA2
        case c1 => exact HB2.out
        case d1 => exact HB2.out
  · have HB : Hid ((decide ((0 : Int) ≤ by_) && decide (by_ < (F.locals.length : Int))) = false) := by simpa [Hid] using fun h0 => Int.not_lt.1 (fun h1 => hin ⟨h0, h1⟩)
    have HU : Hid (lent F x.a by_ defs = ⟨[], [], [], [x.a], defs⟩) := by
      show lent F x.a by_ defs = _
      simp [lent, kindOf, if_neg hin]
    clear hin
    go_enter Tryz.func108, Tryz.ntmps108
    go_wp2_with fail
    refine (gindex_any _ _ _ _ _).mono ?_
    rintro e w1 ⟨rfl, rfl⟩
    rw [HB.out]
    clear HB
    go_wp2_with fail
    rw [HU.out]
    refine bodyPost_ret (v := ?v2) ?h2 rfl ?r2
    case h2 => simp [results, Tryz.results108, go_sem] <;> rfl
    case r2 =>
      refine ⟨⟨_, rfl, _, _, _, _, _, rfl, RSl.nil _ _ _, RSl.nil _ _ _, RSl.nil _ _ _, rints_box1 ?b6, HD.out _ (Bl.le ?b7)⟩, ?b8⟩
      case b6 => repeat (first | (refine Bx.at0 _ _ _ ?_; (simp; done)) | apply Bx.alloc)
      case b7 => repeat (first | exact Below.refl _ _ | apply Bl.alloc)
      case b8 => repeat (first | exact Below.refl _ _ | apply Bl.alloc)
set_option maxHeartbeats 4000000 in
set_option maxRecDepth 100000 in
theorem gu96_any (v vx : Value) (F : Fn) (x : Ins) (w : World) (hF : RFn w.cell? v F) (hx : RIns w.cell? vx x) (hn : x.args.length ≤ 100000) :
    Calls Tryz.prog 96 #[v, vx] w (UsPost w (⟨[], [], [], [], [x.dst]⟩)) := by
  obtain ⟨mo, pa, ar, vb, vr, vl', vk, vt, Ab, At, nb, cb, nt, ct, rfl, rfl, rfl, m1, m2, ⟨Ar, kr, rfl, hr1, hr2, hr3⟩, ⟨Al, kl, rfl, h1, h2, hL⟩, ⟨Ak, kk, rfl, hk1, hk2, hk3⟩⟩ := id hF
  obtain ⟨va, vy, rfl, ⟨Aa, ka, rfl, ha1, ha2, ha3⟩, ⟨Ay, ky, rfl, hy1, hy2, hy3⟩⟩ := id hx
  clear hr3 hk3 hL
  have HF := Lib.hid (fun c (hc : Le w.cell? c) => hF.mono hc)
  have HX := Lib.hid (fun c (hc : Le w.cell? c) => hx.mono hc)
  have HA : Hid (∀ c, Le w.cell? c → RInts c (.slice Aa x.args.length ka) x.args) := fun c hc => ⟨Aa, ka, rfl, ha1, ha2, ha3.mono monoInt hc⟩
  clear hF hx ha3 hy3
  go_enter Tryz.func96, Tryz.ntmps96
  go_wp2_with fail
  refine bodyPost_ret (v := ?v) ?h rfl ?r
  case h =>
    simp [results, Tryz.results96, go_sem] <;> rfl
  case r =>
    refine ⟨⟨_, rfl, _, _, _, _, _, rfl, ?_, ?_, ?_, ?_, ?_⟩, ?_⟩
    · exact RSl.nil _ _ _
    · exact RSl.nil _ _ _
    · exact RSl.nil _ _ _
    · exact RSl.nil _ _ _
    · exact rints_box1 (by repeat (first | (refine Bx.at0 _ _ _ ?_; (simp; done)) | apply Bx.alloc))
    · repeat (first | exact Below.refl _ _ | apply Bl.alloc)
set_option maxHeartbeats 4000000 in
set_option maxRecDepth 100000 in
theorem gu98_any (v vx : Value) (F : Fn) (x : Ins) (w : World) (hF : RFn w.cell? v F) (hx : RIns w.cell? vx x) (hn : x.args.length ≤ 100000) :
    Calls Tryz.prog 98 #[v, vx] w (UsPost w (⟨[x.a, x.b], [], [], [], [x.dst]⟩)) := by
  obtain ⟨mo, pa, ar, vb, vr, vl', vk, vt, Ab, At, nb, cb, nt, ct, rfl, rfl, rfl, m1, m2, ⟨Ar, kr, rfl, hr1, hr2, hr3⟩, ⟨Al, kl, rfl, h1, h2, hL⟩, ⟨Ak, kk, rfl, hk1, hk2, hk3⟩⟩ := id hF
  obtain ⟨va, vy, rfl, ⟨Aa, ka, rfl, ha1, ha2, ha3⟩, ⟨Ay, ky, rfl, hy1, hy2, hy3⟩⟩ := id hx
  clear hr3 hk3 hL
  have HF := Lib.hid (fun c (hc : Le w.cell? c) => hF.mono hc)
  have HX := Lib.hid (fun c (hc : Le w.cell? c) => hx.mono hc)
  have HA : Hid (∀ c, Le w.cell? c → RInts c (.slice Aa x.args.length ka) x.args) := fun c hc => ⟨Aa, ka, rfl, ha1, ha2, ha3.mono monoInt hc⟩
  clear hF hx ha3 hy3
  go_enter Tryz.func98, Tryz.ntmps98
  go_wp2_with fail
  refine bodyPost_ret (v := ?v) ?h rfl ?r
  case h =>
    simp [results, Tryz.results98, go_sem] <;> rfl
  case r =>
    refine ⟨⟨_, rfl, _, _, _, _, _, rfl, ?_, ?_, ?_, ?_, ?_⟩, ?_⟩
    · exact rints_box2 (by repeat (first | (refine Bx.at0 _ _ _ ?_; (simp; done)) | apply Bx.alloc))
    · exact RSl.nil _ _ _
    · exact RSl.nil _ _ _
    · exact RSl.nil _ _ _
    · exact rints_box1 (by repeat (first | (refine Bx.at0 _ _ _ ?_; (simp; done)) | apply Bx.alloc))
    · repeat (first | exact Below.refl _ _ | apply Bl.alloc)
set_option maxHeartbeats 4000000 in
set_option maxRecDepth 100000 in
theorem gu143_any (v vx : Value) (F : Fn) (x : Ins) (w : World) (hF : RFn w.cell? v F) (hx : RIns w.cell? vx x) (hn : x.args.length ≤ 100000) :
    Calls Tryz.prog 143 #[v, vx] w (UsPost w (⟨[x.a], [], [], [], [x.dst]⟩)) := by
  obtain ⟨mo, pa, ar, vb, vr, vl', vk, vt, Ab, At, nb, cb, nt, ct, rfl, rfl, rfl, m1, m2, ⟨Ar, kr, rfl, hr1, hr2, hr3⟩, ⟨Al, kl, rfl, h1, h2, hL⟩, ⟨Ak, kk, rfl, hk1, hk2, hk3⟩⟩ := id hF
  obtain ⟨va, vy, rfl, ⟨Aa, ka, rfl, ha1, ha2, ha3⟩, ⟨Ay, ky, rfl, hy1, hy2, hy3⟩⟩ := id hx
  clear hr3 hk3 hL
  have HF := Lib.hid (fun c (hc : Le w.cell? c) => hF.mono hc)
  have HX := Lib.hid (fun c (hc : Le w.cell? c) => hx.mono hc)
  have HA : Hid (∀ c, Le w.cell? c → RInts c (.slice Aa x.args.length ka) x.args) := fun c hc => ⟨Aa, ka, rfl, ha1, ha2, ha3.mono monoInt hc⟩
  clear hF hx ha3 hy3
  go_enter Tryz.func143, Tryz.ntmps143
  go_wp2_with fail
  refine bodyPost_ret (v := ?v) ?h rfl ?r
  case h =>
    simp [results, Tryz.results143, go_sem] <;> rfl
  case r =>
    refine ⟨⟨_, rfl, _, _, _, _, _, rfl, ?_, ?_, ?_, ?_, ?_⟩, ?_⟩
    · exact rints_box1 (by repeat (first | (refine Bx.at0 _ _ _ ?_; (simp; done)) | apply Bx.alloc))
    · exact RSl.nil _ _ _
    · exact RSl.nil _ _ _
    · exact RSl.nil _ _ _
    · exact rints_box1 (by repeat (first | (refine Bx.at0 _ _ _ ?_; (simp; done)) | apply Bx.alloc))
    · repeat (first | exact Below.refl _ _ | apply Bl.alloc)
set_option maxHeartbeats 4000000 in
set_option maxRecDepth 100000 in
theorem gu80_any (v vx : Value) (F : Fn) (x : Ins) (w : World) (hF : RFn w.cell? v F) (hx : RIns w.cell? vx x) (hn : x.args.length ≤ 100000) :
    Calls Tryz.prog 80 #[v, vx] w (UsPost w (⟨[], [x.a], [], [], x.args⟩)) := by
  obtain ⟨mo, pa, ar, vb, vr, vl', vk, vt, Ab, At, nb, cb, nt, ct, rfl, rfl, rfl, m1, m2, ⟨Ar, kr, rfl, hr1, hr2, hr3⟩, ⟨Al, kl, rfl, h1, h2, hL⟩, ⟨Ak, kk, rfl, hk1, hk2, hk3⟩⟩ := id hF
  obtain ⟨va, vy, rfl, ⟨Aa, ka, rfl, ha1, ha2, ha3⟩, ⟨Ay, ky, rfl, hy1, hy2, hy3⟩⟩ := id hx
  clear hr3 hk3 hL
  have HF := Lib.hid (fun c (hc : Le w.cell? c) => hF.mono hc)
  have HX := Lib.hid (fun c (hc : Le w.cell? c) => hx.mono hc)
  have HA : Hid (∀ c, Le w.cell? c → RInts c (.slice Aa x.args.length ka) x.args) := fun c hc => ⟨Aa, ka, rfl, ha1, ha2, ha3.mono monoInt hc⟩
  clear hF hx ha3 hy3
  go_enter Tryz.func80, Tryz.ntmps80
  go_wp2_with fail
  refine bodyPost_ret (v := ?v) ?h rfl ?r
  case h =>
    simp [results, Tryz.results80, go_sem] <;> rfl
  case r =>
    refine ⟨⟨_, rfl, _, _, _, _, _, rfl, ?_, ?_, ?_, ?_, ?_⟩, ?_⟩
    · exact RSl.nil _ _ _
    · exact rints_box1 (by repeat (first | (refine Bx.at0 _ _ _ ?_; (simp; done)) | apply Bx.alloc))
    · exact RSl.nil _ _ _
    · exact RSl.nil _ _ _
    · exact HA.out _ (Bl.le (by repeat (first | exact Below.refl _ _ | apply Bl.alloc)))
    · repeat (first | exact Below.refl _ _ | apply Bl.alloc)
set_option maxHeartbeats 4000000 in
set_option maxRecDepth 100000 in
theorem gu85_any (v vx : Value) (F : Fn) (x : Ins) (w : World) (hF : RFn w.cell? v F) (hx : RIns w.cell? vx x) (hn : x.args.length ≤ 100000) :
    Calls Tryz.prog 85 #[v, vx] w (UsPost w (⟨[], [x.a], [], [], [x.dst]⟩)) := by
  obtain ⟨mo, pa, ar, vb, vr, vl', vk, vt, Ab, At, nb, cb, nt, ct, rfl, rfl, rfl, m1, m2, ⟨Ar, kr, rfl, hr1, hr2, hr3⟩, ⟨Al, kl, rfl, h1, h2, hL⟩, ⟨Ak, kk, rfl, hk1, hk2, hk3⟩⟩ := id hF
  obtain ⟨va, vy, rfl, ⟨Aa, ka, rfl, ha1, ha2, ha3⟩, ⟨Ay, ky, rfl, hy1, hy2, hy3⟩⟩ := id hx
  clear hr3 hk3 hL
  have HF := Lib.hid (fun c (hc : Le w.cell? c) => hF.mono hc)
  have HX := Lib.hid (fun c (hc : Le w.cell? c) => hx.mono hc)
  have HA : Hid (∀ c, Le w.cell? c → RInts c (.slice Aa x.args.length ka) x.args) := fun c hc => ⟨Aa, ka, rfl, ha1, ha2, ha3.mono monoInt hc⟩
  clear hF hx ha3 hy3
  go_enter Tryz.func85, Tryz.ntmps85
  go_wp2_with fail
  refine bodyPost_ret (v := ?v) ?h rfl ?r
  case h =>
    simp [results, Tryz.results85, go_sem] <;> rfl
  case r =>
    refine ⟨⟨_, rfl, _, _, _, _, _, rfl, ?_, ?_, ?_, ?_, ?_⟩, ?_⟩
    · exact RSl.nil _ _ _
    · exact rints_box1 (by repeat (first | (refine Bx.at0 _ _ _ ?_; (simp; done)) | apply Bx.alloc))
    · exact RSl.nil _ _ _
    · exact RSl.nil _ _ _
    · exact rints_box1 (by repeat (first | (refine Bx.at0 _ _ _ ?_; (simp; done)) | apply Bx.alloc))
    · repeat (first | exact Below.refl _ _ | apply Bl.alloc)
set_option maxHeartbeats 4000000 in
set_option maxRecDepth 100000 in
theorem gu117_any (v vx : Value) (F : Fn) (x : Ins) (w : World) (hF : RFn w.cell? v F) (hx : RIns w.cell? vx x) (hn : x.args.length ≤ 100000) :
    Calls Tryz.prog 117 #[v, vx] w (UsPost w (⟨[], [x.a], [], [], []⟩)) := by
  obtain ⟨mo, pa, ar, vb, vr, vl', vk, vt, Ab, At, nb, cb, nt, ct, rfl, rfl, rfl, m1, m2, ⟨Ar, kr, rfl, hr1, hr2, hr3⟩, ⟨Al, kl, rfl, h1, h2, hL⟩, ⟨Ak, kk, rfl, hk1, hk2, hk3⟩⟩ := id hF
  obtain ⟨va, vy, rfl, ⟨Aa, ka, rfl, ha1, ha2, ha3⟩, ⟨Ay, ky, rfl, hy1, hy2, hy3⟩⟩ := id hx
  clear hr3 hk3 hL
  have HF := Lib.hid (fun c (hc : Le w.cell? c) => hF.mono hc)
  have HX := Lib.hid (fun c (hc : Le w.cell? c) => hx.mono hc)
  have HA : Hid (∀ c, Le w.cell? c → RInts c (.slice Aa x.args.length ka) x.args) := fun c hc => ⟨Aa, ka, rfl, ha1, ha2, ha3.mono monoInt hc⟩
  clear hF hx ha3 hy3
  go_enter Tryz.func117, Tryz.ntmps117
  go_wp2_with fail
  refine bodyPost_ret (v := ?v) ?h rfl ?r
  case h =>
    simp [results, Tryz.results117, go_sem] <;> rfl
  case r =>
    refine ⟨⟨_, rfl, _, _, _, _, _, rfl, ?_, ?_, ?_, ?_, ?_⟩, ?_⟩
    · exact RSl.nil _ _ _
    · exact rints_box1 (by repeat (first | (refine Bx.at0 _ _ _ ?_; (simp; done)) | apply Bx.alloc))
    · exact RSl.nil _ _ _
    · exact RSl.nil _ _ _
    · exact RSl.nil _ _ _
    · repeat (first | exact Below.refl _ _ | apply Bl.alloc)
set_option maxHeartbeats 4000000 in
set_option maxRecDepth 100000 in
theorem gu121_any (v vx : Value) (F : Fn) (x : Ins) (w : World) (hF : RFn w.cell? v F) (hx : RIns w.cell? vx x) (hn : x.args.length ≤ 100000) :
    Calls Tryz.prog 121 #[v, vx] w (UsPost w (⟨[x.a], [], [], [], []⟩)) := by
  obtain ⟨mo, pa, ar, vb, vr, vl', vk, vt, Ab, At, nb, cb, nt, ct, rfl, rfl, rfl, m1, m2, ⟨Ar, kr, rfl, hr1, hr2, hr3⟩, ⟨Al, kl, rfl, h1, h2, hL⟩, ⟨Ak, kk, rfl, hk1, hk2, hk3⟩⟩ := id hF
  obtain ⟨va, vy, rfl, ⟨Aa, ka, rfl, ha1, ha2, ha3⟩, ⟨Ay, ky, rfl, hy1, hy2, hy3⟩⟩ := id hx
  clear hr3 hk3 hL
  have HF := Lib.hid (fun c (hc : Le w.cell? c) => hF.mono hc)
  have HX := Lib.hid (fun c (hc : Le w.cell? c) => hx.mono hc)
  have HA : Hid (∀ c, Le w.cell? c → RInts c (.slice Aa x.args.length ka) x.args) := fun c hc => ⟨Aa, ka, rfl, ha1, ha2, ha3.mono monoInt hc⟩
  clear hF hx ha3 hy3
  go_enter Tryz.func121, Tryz.ntmps121
  go_wp2_with fail
  refine bodyPost_ret (v := ?v) ?h rfl ?r
  case h =>
    simp [results, Tryz.results121, go_sem] <;> rfl
  case r =>
    refine ⟨⟨_, rfl, _, _, _, _, _, rfl, ?_, ?_, ?_, ?_, ?_⟩, ?_⟩
    · exact rints_box1 (by repeat (first | (refine Bx.at0 _ _ _ ?_; (simp; done)) | apply Bx.alloc))
    · exact RSl.nil _ _ _
    · exact RSl.nil _ _ _
    · exact RSl.nil _ _ _
    · exact RSl.nil _ _ _
    · repeat (first | exact Below.refl _ _ | apply Bl.alloc)
set_option maxHeartbeats 4000000 in
set_option maxRecDepth 100000 in
theorem gu131_any (v vx : Value) (F : Fn) (x : Ins) (w : World) (hF : RFn w.cell? v F) (hx : RIns w.cell? vx x) (hn : x.args.length ≤ 100000) :
    Calls Tryz.prog 131 #[v, vx] w (UsPost w (⟨[], [], [], [], [x.b]⟩)) := by
  obtain ⟨mo, pa, ar, vb, vr, vl', vk, vt, Ab, At, nb, cb, nt, ct, rfl, rfl, rfl, m1, m2, ⟨Ar, kr, rfl, hr1, hr2, hr3⟩, ⟨Al, kl, rfl, h1, h2, hL⟩, ⟨Ak, kk, rfl, hk1, hk2, hk3⟩⟩ := id hF
  obtain ⟨va, vy, rfl, ⟨Aa, ka, rfl, ha1, ha2, ha3⟩, ⟨Ay, ky, rfl, hy1, hy2, hy3⟩⟩ := id hx
  clear hr3 hk3 hL
  have HF := Lib.hid (fun c (hc : Le w.cell? c) => hF.mono hc)
  have HX := Lib.hid (fun c (hc : Le w.cell? c) => hx.mono hc)
  have HA : Hid (∀ c, Le w.cell? c → RInts c (.slice Aa x.args.length ka) x.args) := fun c hc => ⟨Aa, ka, rfl, ha1, ha2, ha3.mono monoInt hc⟩
  clear hF hx ha3 hy3
  go_enter Tryz.func131, Tryz.ntmps131
  go_wp2_with fail
  refine bodyPost_ret (v := ?v) ?h rfl ?r
  case h =>
    simp [results, Tryz.results131, go_sem] <;> rfl
  case r =>
    refine ⟨⟨_, rfl, _, _, _, _, _, rfl, ?_, ?_, ?_, ?_, ?_⟩, ?_⟩
    · exact RSl.nil _ _ _
    · exact RSl.nil _ _ _
    · exact RSl.nil _ _ _
    · exact RSl.nil _ _ _
    · exact rints_box1 (by repeat (first | (refine Bx.at0 _ _ _ ?_; (simp; done)) | apply Bx.alloc))
    · repeat (first | exact Below.refl _ _ | apply Bl.alloc)
set_option maxHeartbeats 4000000 in
set_option maxRecDepth 100000 in
theorem gu133_any (v vx : Value) (F : Fn) (x : Ins) (w : World) (hF : RFn w.cell? v F) (hx : RIns w.cell? vx x) (hn : x.args.length ≤ 100000) :
    Calls Tryz.prog 133 #[v, vx] w (UsPost w (⟨[x.b], [x.a], [], [], []⟩)) := by
  obtain ⟨mo, pa, ar, vb, vr, vl', vk, vt, Ab, At, nb, cb, nt, ct, rfl, rfl, rfl, m1, m2, ⟨Ar, kr, rfl, hr1, hr2, hr3⟩, ⟨Al, kl, rfl, h1, h2, hL⟩, ⟨Ak, kk, rfl, hk1, hk2, hk3⟩⟩ := id hF
  obtain ⟨va, vy, rfl, ⟨Aa, ka, rfl, ha1, ha2, ha3⟩, ⟨Ay, ky, rfl, hy1, hy2, hy3⟩⟩ := id hx
  clear hr3 hk3 hL
  have HF := Lib.hid (fun c (hc : Le w.cell? c) => hF.mono hc)
  have HX := Lib.hid (fun c (hc : Le w.cell? c) => hx.mono hc)
  have HA : Hid (∀ c, Le w.cell? c → RInts c (.slice Aa x.args.length ka) x.args) := fun c hc => ⟨Aa, ka, rfl, ha1, ha2, ha3.mono monoInt hc⟩
  clear hF hx ha3 hy3
  go_enter Tryz.func133, Tryz.ntmps133
  go_wp2_with fail
  refine bodyPost_ret (v := ?v) ?h rfl ?r
  case h =>
    simp [results, Tryz.results133, go_sem] <;> rfl
  case r =>
    refine ⟨⟨_, rfl, _, _, _, _, _, rfl, ?_, ?_, ?_, ?_, ?_⟩, ?_⟩
    · exact rints_box1 (by repeat (first | (refine Bx.at0 _ _ _ ?_; (simp; done)) | apply Bx.alloc))
    · exact rints_box1 (by repeat (first | (refine Bx.at0 _ _ _ ?_; (simp; done)) | apply Bx.alloc))
    · exact RSl.nil _ _ _
    · exact RSl.nil _ _ _
    · exact RSl.nil _ _ _
    · repeat (first | exact Below.refl _ _ | apply Bl.alloc)
set_option maxHeartbeats 4000000 in
set_option maxRecDepth 100000 in
theorem gu100_any (v vx : Value) (F : Fn) (x : Ins) (w : World) (hF : RFn w.cell? v F) (hx : RIns w.cell? vx x) (hn : x.args.length ≤ 100000) :
    Calls Tryz.prog 100 #[v, vx] w (UsPost w (takes F ⟨[], [], [], [], [x.dst]⟩ [x.a])) := by
  obtain ⟨mo, pa, ar, vb, vr, vl', vk, vt, Ab, At, nb, cb, nt, ct, rfl, rfl, rfl, m1, m2, ⟨Ar, kr, rfl, hr1, hr2, hr3⟩, ⟨Al, kl, rfl, h1, h2, hL⟩, ⟨Ak, kk, rfl, hk1, hk2, hk3⟩⟩ := id hF
  obtain ⟨va, vy, rfl, ⟨Aa, ka, rfl, ha1, ha2, ha3⟩, ⟨Ay, ky, rfl, hy1, hy2, hy3⟩⟩ := id hx
  clear hr3 hk3 hL
  have HF := Lib.hid (fun c (hc : Le w.cell? c) => hF.mono hc)
  have HX := Lib.hid (fun c (hc : Le w.cell? c) => hx.mono hc)
  have HA : Hid (∀ c, Le w.cell? c → RInts c (.slice Aa x.args.length ka) x.args) := fun c hc => ⟨Aa, ka, rfl, ha1, ha2, ha3.mono monoInt hc⟩
  clear hF hx ha3 hy3
  have HU : Hid (takes F ⟨[], [], [], [], [x.dst]⟩ [x.a] = ⟨(tkU F [] [] [x.a]).copies, (tkU F [] [] [x.a]).moves, [], [], [x.dst]⟩) := takes_eq _ _ _
  go_enter Tryz.func100, Tryz.ntmps100
  go_wp2_with fail
  refine (gtakes_any [] _ F _ _ _ _ _ _ _ _ _ _ _ _ [] [] [x.a] _ ?hF ?hl ?oc ?om ?ne ?dc ?dm ?hD ?hn).mono ?_
  case hF => exact HF.out _ (le_lookD (by repeat (first | exact Below.refl _ _ | apply Bl.alloc)) (by simp <;> omega))
  case hl => exact rints_boxD _ (Bx.at0 _ _ _ (by simp <;> omega)) (by simp <;> omega)
  case oc => exact World.ownsRow_nil _ _ _ _
  case ne => simp [Value.ownBlock]
  case dc => simp [Value.ownBlock]
  case om => exact World.ownsRow_nil _ _ _ _
  case dm => simp [Value.ownBlock]
  case hD => simp
  case hn => simp; try omega
  rintro e w1 ⟨vc, vm, rfl, oc, om, ne, bc, bm, ch⟩
  obtain ⟨Ac, kc, rfl⟩ := own_shape oc
  obtain ⟨Am, km, rfl⟩ := own_shape om
  have RC := Lib.hid (RInts.of_own [w.heap.size + 2] oc (fun k hk hm => by
    have := bc k hk
    simp at this hm
    omega))
  have RM := Lib.hid (RInts.of_own [w.heap.size + 2] om (fun k hk hm => by
    have := bm k hk
    simp at this hm
    omega))
  have bR := Bx.chg (D := []) (w' := w1) (b := w.heap.size + 1 + 1) (t := 40) (cs := #[.slice none 0 0, .slice none 0 0, .slice none 0 0, .slice none 0 0, .slice none 0 0]) (by repeat (first | (refine Bx.at0 _ _ _ ?_; (simp; done)) | apply Bx.alloc)) ch (by simp <;> omega)
  have bD := Bx.chg (D := []) (w' := w1) (b := w.heap.size + 1 + 1 + 1) (t := 3) (cs := #[.int .i64 x.dst]) (by repeat (first | (refine Bx.at0 _ _ _ ?_; (simp; done)) | apply Bx.alloc)) ch (by simp <;> omega)
  have RD := Lib.hid (rints_boxD [w.heap.size + 2] bD (by simp <;> omega))
  clear bD
  have HB1 := Lib.hid (Bl.chg (w := w) (by repeat (first | apply Bl.alloc | exact Below.refl _ _)) ch (by simp <;> omega))
  clear ch oc om ne bc bm
  have cR := bR.cell
  have fR := bR.frozen
  clear bR
  go_wp2_with fail
  rw [HU.out]
  refine bodyPost_ret (v := ?v1) ?h1 rfl ?r1
  case h1 =>
    simp [results, Tryz.results100, go_sem, cR, fR] <;> rfl
  case r1 =>
    refine ⟨⟨_, rfl, _, _, _, _, _, rfl, ?_, ?_, RSl.nil _ _ _, ?_, ?_⟩, ?_⟩
    · exact RC.out.mono monoInt (Chg.le' (by repeat (first | refine Chg.put ?_ (.inl (by simp <;> omega)) _ | exact Chg.refl _ w1)))
    · exact RM.out.mono monoInt (Chg.le' (by repeat (first | refine Chg.put ?_ (.inl (by simp <;> omega)) _ | exact Chg.refl _ w1)))
    · exact RSl.nil _ _ _
    · exact RD.out.mono monoInt (Chg.le' (by repeat (first | refine Chg.put ?_ (.inl (by simp <;> omega)) _ | exact Chg.refl _ w1)))
    · exact Bl.chg HB1.out (D := [w.heap.size + 2]) (by repeat (first | refine Chg.put ?_ (.inl (by simp <;> omega)) _ | exact Chg.refl _ w1)) (by simp <;> omega)
set_option maxHeartbeats 4000000 in
set_option maxRecDepth 100000 in
theorem gu101_any (v vx : Value) (F : Fn) (x : Ins) (w : World) (hF : RFn w.cell? v F) (hx : RIns w.cell? vx x) (hn : x.args.length ≤ 100000) :
    Calls Tryz.prog 101 #[v, vx] w (UsPost w (takes F ⟨[], [], [], [], [x.dst]⟩ x.args)) := by
  obtain ⟨mo, pa, ar, vb, vr, vl', vk, vt, Ab, At, nb, cb, nt, ct, rfl, rfl, rfl, m1, m2, ⟨Ar, kr, rfl, hr1, hr2, hr3⟩, ⟨Al, kl, rfl, h1, h2, hL⟩, ⟨Ak, kk, rfl, hk1, hk2, hk3⟩⟩ := id hF
  obtain ⟨va, vy, rfl, ⟨Aa, ka, rfl, ha1, ha2, ha3⟩, ⟨Ay, ky, rfl, hy1, hy2, hy3⟩⟩ := id hx
  clear hr3 hk3 hL
  have HF := Lib.hid (fun c (hc : Le w.cell? c) => hF.mono hc)
  have HX := Lib.hid (fun c (hc : Le w.cell? c) => hx.mono hc)
  have HA : Hid (∀ c, Le w.cell? c → RInts c (.slice Aa x.args.length ka) x.args) := fun c hc => ⟨Aa, ka, rfl, ha1, ha2, ha3.mono monoInt hc⟩
  clear hF hx ha3 hy3
  have HU : Hid (takes F ⟨[], [], [], [], [x.dst]⟩ x.args = ⟨(tkU F [] [] x.args).copies, (tkU F [] [] x.args).moves, [], [], [x.dst]⟩) := takes_eq _ _ _
  go_enter Tryz.func101, Tryz.ntmps101
  go_wp2_with fail
  refine (gtakes_any [] _ F _ _ _ _ _ _ _ _ _ _ _ _ [] [] x.args _ ?hF ?hl ?oc ?om ?ne ?dc ?dm ?hD ?hn).mono ?_
  case hF => exact HF.out _ (le_lookD (by repeat (first | exact Below.refl _ _ | apply Bl.alloc)) (by simp <;> omega))
  case hl => exact HA.out _ (le_lookD (by repeat (first | exact Below.refl _ _ | apply Bl.alloc)) (by simp <;> omega))
  case oc => exact World.ownsRow_nil _ _ _ _
  case ne => simp [Value.ownBlock]
  case dc => simp [Value.ownBlock]
  case om => exact World.ownsRow_nil _ _ _ _
  case dm => simp [Value.ownBlock]
  case hD => simp
  case hn => simp; try omega
  rintro e w1 ⟨vc, vm, rfl, oc, om, ne, bc, bm, ch⟩
  obtain ⟨Ac, kc, rfl⟩ := own_shape oc
  obtain ⟨Am, km, rfl⟩ := own_shape om
  have RC := Lib.hid (RInts.of_own [w.heap.size + 2] oc (fun k hk hm => by
    have := bc k hk
    simp at this hm
    omega))
  have RM := Lib.hid (RInts.of_own [w.heap.size + 2] om (fun k hk hm => by
    have := bm k hk
    simp at this hm
    omega))
  have bR := Bx.chg (D := []) (w' := w1) (b := w.heap.size + 1 + 1) (t := 40) (cs := #[.slice none 0 0, .slice none 0 0, .slice none 0 0, .slice none 0 0, .slice none 0 0]) (by repeat (first | (refine Bx.at0 _ _ _ ?_; (simp; done)) | apply Bx.alloc)) ch (by simp <;> omega)
  have bD := Bx.chg (D := []) (w' := w1) (b := w.heap.size + 1 + 1 + 1) (t := 3) (cs := #[.int .i64 x.dst]) (by repeat (first | (refine Bx.at0 _ _ _ ?_; (simp; done)) | apply Bx.alloc)) ch (by simp <;> omega)
  have RD := Lib.hid (rints_boxD [w.heap.size + 2] bD (by simp <;> omega))
  clear bD
  have HB1 := Lib.hid (Bl.chg (w := w) (by repeat (first | apply Bl.alloc | exact Below.refl _ _)) ch (by simp <;> omega))
  clear ch oc om ne bc bm
  have cR := bR.cell
  have fR := bR.frozen
  clear bR
  go_wp2_with fail
  rw [HU.out]
  refine bodyPost_ret (v := ?v1) ?h1 rfl ?r1
  case h1 =>
    simp [results, Tryz.results101, go_sem, cR, fR] <;> rfl
  case r1 =>
    refine ⟨⟨_, rfl, _, _, _, _, _, rfl, ?_, ?_, RSl.nil _ _ _, ?_, ?_⟩, ?_⟩
    · exact RC.out.mono monoInt (Chg.le' (by repeat (first | refine Chg.put ?_ (.inl (by simp <;> omega)) _ | exact Chg.refl _ w1)))
    · exact RM.out.mono monoInt (Chg.le' (by repeat (first | refine Chg.put ?_ (.inl (by simp <;> omega)) _ | exact Chg.refl _ w1)))
    · exact RSl.nil _ _ _
    · exact RD.out.mono monoInt (Chg.le' (by repeat (first | refine Chg.put ?_ (.inl (by simp <;> omega)) _ | exact Chg.refl _ w1)))
    · exact Bl.chg HB1.out (D := [w.heap.size + 2]) (by repeat (first | refine Chg.put ?_ (.inl (by simp <;> omega)) _ | exact Chg.refl _ w1)) (by simp <;> omega)
set_option maxHeartbeats 4000000 in
set_option maxRecDepth 100000 in
theorem gu114_any (v vx : Value) (F : Fn) (x : Ins) (w : World) (hF : RFn w.cell? v F) (hx : RIns w.cell? vx x) (hn : x.args.length ≤ 100000) :
    Calls Tryz.prog 114 #[v, vx] w (UsPost w (takes F ⟨[], [], [], [x.a], []⟩ [x.b])) := by
  obtain ⟨mo, pa, ar, vb, vr, vl', vk, vt, Ab, At, nb, cb, nt, ct, rfl, rfl, rfl, m1, m2, ⟨Ar, kr, rfl, hr1, hr2, hr3⟩, ⟨Al, kl, rfl, h1, h2, hL⟩, ⟨Ak, kk, rfl, hk1, hk2, hk3⟩⟩ := id hF
  obtain ⟨va, vy, rfl, ⟨Aa, ka, rfl, ha1, ha2, ha3⟩, ⟨Ay, ky, rfl, hy1, hy2, hy3⟩⟩ := id hx
  clear hr3 hk3 hL
  have HF := Lib.hid (fun c (hc : Le w.cell? c) => hF.mono hc)
  have HX := Lib.hid (fun c (hc : Le w.cell? c) => hx.mono hc)
  have HA : Hid (∀ c, Le w.cell? c → RInts c (.slice Aa x.args.length ka) x.args) := fun c hc => ⟨Aa, ka, rfl, ha1, ha2, ha3.mono monoInt hc⟩
  clear hF hx ha3 hy3
  have HU : Hid (takes F ⟨[], [], [], [x.a], []⟩ [x.b] = ⟨(tkU F [] [] [x.b]).copies, (tkU F [] [] [x.b]).moves, [], [x.a], []⟩) := takes_eq _ _ _
  go_enter Tryz.func114, Tryz.ntmps114
  go_wp2_with fail
  refine (gtakes_any [] _ F _ _ _ _ _ _ _ _ _ _ _ _ [] [] [x.b] _ ?hF ?hl ?oc ?om ?ne ?dc ?dm ?hD ?hn).mono ?_
  case hF => exact HF.out _ (le_lookD (by repeat (first | exact Below.refl _ _ | apply Bl.alloc)) (by simp <;> omega))
  case hl => exact rints_boxD _ (Bx.at0 _ _ _ (by simp <;> omega)) (by simp <;> omega)
  case oc => exact World.ownsRow_nil _ _ _ _
  case ne => simp [Value.ownBlock]
  case dc => simp [Value.ownBlock]
  case om => exact World.ownsRow_nil _ _ _ _
  case dm => simp [Value.ownBlock]
  case hD => simp
  case hn => simp; try omega
  rintro e w1 ⟨vc, vm, rfl, oc, om, ne, bc, bm, ch⟩
  obtain ⟨Ac, kc, rfl⟩ := own_shape oc
  obtain ⟨Am, km, rfl⟩ := own_shape om
  have RC := Lib.hid (RInts.of_own [w.heap.size + 2] oc (fun k hk hm => by
    have := bc k hk
    simp at this hm
    omega))
  have RM := Lib.hid (RInts.of_own [w.heap.size + 2] om (fun k hk hm => by
    have := bm k hk
    simp at this hm
    omega))
  have bR := Bx.chg (D := []) (w' := w1) (b := w.heap.size + 1 + 1) (t := 40) (cs := #[.slice none 0 0, .slice none 0 0, .slice none 0 0, .slice none 0 0, .slice none 0 0]) (by repeat (first | (refine Bx.at0 _ _ _ ?_; (simp; done)) | apply Bx.alloc)) ch (by simp <;> omega)
  have bL := Bx.chg (D := []) (w' := w1) (b := w.heap.size + 1 + 1 + 1) (t := 3) (cs := #[.int .i64 x.a]) (by repeat (first | (refine Bx.at0 _ _ _ ?_; (simp; done)) | apply Bx.alloc)) ch (by simp <;> omega)
  have RL := Lib.hid (rints_boxD [w.heap.size + 2] bL (by simp <;> omega))
  clear bL
  have HB1 := Lib.hid (Bl.chg (w := w) (by repeat (first | apply Bl.alloc | exact Below.refl _ _)) ch (by simp <;> omega))
  clear ch oc om ne bc bm
  have cR := bR.cell
  have fR := bR.frozen
  clear bR
  go_wp2_with fail
  rw [HU.out]
  refine bodyPost_ret (v := ?v1) ?h1 rfl ?r1
  case h1 =>
    simp [results, Tryz.results114, go_sem, cR, fR] <;> rfl
  case r1 =>
    refine ⟨⟨_, rfl, _, _, _, _, _, rfl, ?_, ?_, RSl.nil _ _ _, ?_, ?_⟩, ?_⟩
    · exact RC.out.mono monoInt (Chg.le' (by repeat (first | refine Chg.put ?_ (.inl (by simp <;> omega)) _ | exact Chg.refl _ w1)))
    · exact RM.out.mono monoInt (Chg.le' (by repeat (first | refine Chg.put ?_ (.inl (by simp <;> omega)) _ | exact Chg.refl _ w1)))
    · exact RL.out.mono monoInt (Chg.le' (by repeat (first | refine Chg.put ?_ (.inl (by simp <;> omega)) _ | exact Chg.refl _ w1)))
    · exact RSl.nil _ _ _
    · exact Bl.chg HB1.out (D := [w.heap.size + 2]) (by repeat (first | refine Chg.put ?_ (.inl (by simp <;> omega)) _ | exact Chg.refl _ w1)) (by simp <;> omega)
set_option maxHeartbeats 4000000 in
set_option maxRecDepth 100000 in
theorem gu124_any (v vx : Value) (F : Fn) (x : Ins) (w : World) (hF : RFn w.cell? v F) (hx : RIns w.cell? vx x) (hn : x.args.length ≤ 100000) :
    Calls Tryz.prog 124 #[v, vx] w (UsPost w (takes F ⟨[x.a], [], [], [], [x.dst]⟩ [x.b])) := by
  obtain ⟨mo, pa, ar, vb, vr, vl', vk, vt, Ab, At, nb, cb, nt, ct, rfl, rfl, rfl, m1, m2, ⟨Ar, kr, rfl, hr1, hr2, hr3⟩, ⟨Al, kl, rfl, h1, h2, hL⟩, ⟨Ak, kk, rfl, hk1, hk2, hk3⟩⟩ := id hF
  obtain ⟨va, vy, rfl, ⟨Aa, ka, rfl, ha1, ha2, ha3⟩, ⟨Ay, ky, rfl, hy1, hy2, hy3⟩⟩ := id hx
  clear hr3 hk3 hL
  have HF := Lib.hid (fun c (hc : Le w.cell? c) => hF.mono hc)
  have HX := Lib.hid (fun c (hc : Le w.cell? c) => hx.mono hc)
  have HA : Hid (∀ c, Le w.cell? c → RInts c (.slice Aa x.args.length ka) x.args) := fun c hc => ⟨Aa, ka, rfl, ha1, ha2, ha3.mono monoInt hc⟩
  clear hF hx ha3 hy3
  have HU : Hid (takes F ⟨[x.a], [], [], [], [x.dst]⟩ [x.b] = ⟨(tkU F [x.a] [] [x.b]).copies, (tkU F [x.a] [] [x.b]).moves, [], [], [x.dst]⟩) := takes_eq _ _ _
  go_enter Tryz.func124, Tryz.ntmps124
  go_wp2_with fail
  refine (gtakes_any [w.heap.size + 1 + 1 + 1] _ F _ _ _ _ _ _ _ _ _ _ _ _ [x.a] [] [x.b] _ ?hF ?hl ?oc ?om ?ne ?dc ?dm ?hD ?hn).mono ?_
  case hF => exact HF.out _ (le_lookD (by repeat (first | exact Below.refl _ _ | apply Bl.alloc)) (by simp <;> omega))
  case hl => exact rints_boxD _ (Bx.at0 _ _ _ (by simp <;> omega)) (by simp <;> omega)
  case oc => exact own_box1 (by repeat (first | (refine Bx.at0 _ _ _ ?_; (simp; done)) | apply Bx.alloc))
  case ne => simp [Value.ownBlock]
  case dc =>
    intro k hk
    simp [Value.ownBlock] at hk ⊢
    omega
  case om => exact World.ownsRow_nil _ _ _ _
  case dm => simp [Value.ownBlock]
  case hD => simp
  case hn => simp; try omega
  rintro e w1 ⟨vc, vm, rfl, oc, om, ne, bc, bm, ch⟩
  obtain ⟨Ac, kc, rfl⟩ := own_shape oc
  obtain ⟨Am, km, rfl⟩ := own_shape om
  have RC := Lib.hid (RInts.of_own [w.heap.size + 2] oc (fun k hk hm => by
    have := bc k hk
    simp at this hm
    omega))
  have RM := Lib.hid (RInts.of_own [w.heap.size + 2] om (fun k hk hm => by
    have := bm k hk
    simp at this hm
    omega))
  have bR := Bx.chg (D := [w.heap.size + 1 + 1 + 1]) (w' := w1) (b := w.heap.size + 1 + 1) (t := 40) (cs := #[.slice none 0 0, .slice none 0 0, .slice none 0 0, .slice none 0 0, .slice none 0 0]) (by repeat (first | (refine Bx.at0 _ _ _ ?_; (simp; done)) | apply Bx.alloc)) ch (by simp <;> omega)
  have bD := Bx.chg (D := [w.heap.size + 1 + 1 + 1]) (w' := w1) (b := w.heap.size + 1 + 1 + 1 + 1) (t := 3) (cs := #[.int .i64 x.dst]) (by repeat (first | (refine Bx.at0 _ _ _ ?_; (simp; done)) | apply Bx.alloc)) ch (by simp <;> omega)
  have RD := Lib.hid (rints_boxD [w.heap.size + 2] bD (by simp <;> omega))
  clear bD
  have HB1 := Lib.hid (Bl.chg (w := w) (by repeat (first | apply Bl.alloc | exact Below.refl _ _)) ch (by simp <;> omega))
  clear ch oc om ne bc bm
  have cR := bR.cell
  have fR := bR.frozen
  clear bR
  go_wp2_with fail
  rw [HU.out]
  refine bodyPost_ret (v := ?v1) ?h1 rfl ?r1
  case h1 =>
    simp [results, Tryz.results124, go_sem, cR, fR] <;> rfl
  case r1 =>
    refine ⟨⟨_, rfl, _, _, _, _, _, rfl, ?_, ?_, RSl.nil _ _ _, ?_, ?_⟩, ?_⟩
    · exact RC.out.mono monoInt (Chg.le' (by repeat (first | refine Chg.put ?_ (.inl (by simp <;> omega)) _ | exact Chg.refl _ w1)))
    · exact RM.out.mono monoInt (Chg.le' (by repeat (first | refine Chg.put ?_ (.inl (by simp <;> omega)) _ | exact Chg.refl _ w1)))
    · exact RSl.nil _ _ _
    · exact RD.out.mono monoInt (Chg.le' (by repeat (first | refine Chg.put ?_ (.inl (by simp <;> omega)) _ | exact Chg.refl _ w1)))
    · exact Bl.chg HB1.out (D := [w.heap.size + 2]) (by repeat (first | refine Chg.put ?_ (.inl (by simp <;> omega)) _ | exact Chg.refl _ w1)) (by simp <;> omega)
set_option maxHeartbeats 4000000 in
set_option maxRecDepth 100000 in
theorem gu127_any (v vx : Value) (F : Fn) (x : Ins) (w : World) (hF : RFn w.cell? v F) (hx : RIns w.cell? vx x) (hn : x.args.length ≤ 100000) :
    Calls Tryz.prog 127 #[v, vx] w (UsPost w (takes F ⟨[x.a], [], [], [], []⟩ [x.b])) := by
  obtain ⟨mo, pa, ar, vb, vr, vl', vk, vt, Ab, At, nb, cb, nt, ct, rfl, rfl, rfl, m1, m2, ⟨Ar, kr, rfl, hr1, hr2, hr3⟩, ⟨Al, kl, rfl, h1, h2, hL⟩, ⟨Ak, kk, rfl, hk1, hk2, hk3⟩⟩ := id hF
  obtain ⟨va, vy, rfl, ⟨Aa, ka, rfl, ha1, ha2, ha3⟩, ⟨Ay, ky, rfl, hy1, hy2, hy3⟩⟩ := id hx
  clear hr3 hk3 hL
  have HF := Lib.hid (fun c (hc : Le w.cell? c) => hF.mono hc)
  have HX := Lib.hid (fun c (hc : Le w.cell? c) => hx.mono hc)
  have HA : Hid (∀ c, Le w.cell? c → RInts c (.slice Aa x.args.length ka) x.args) := fun c hc => ⟨Aa, ka, rfl, ha1, ha2, ha3.mono monoInt hc⟩
  clear hF hx ha3 hy3
  have HU : Hid (takes F ⟨[x.a], [], [], [], []⟩ [x.b] = ⟨(tkU F [x.a] [] [x.b]).copies, (tkU F [x.a] [] [x.b]).moves, [], [], []⟩) := takes_eq _ _ _
  go_enter Tryz.func127, Tryz.ntmps127
  go_wp2_with fail
  refine (gtakes_any [w.heap.size + 1 + 1 + 1] _ F _ _ _ _ _ _ _ _ _ _ _ _ [x.a] [] [x.b] _ ?hF ?hl ?oc ?om ?ne ?dc ?dm ?hD ?hn).mono ?_
  case hF => exact HF.out _ (le_lookD (by repeat (first | exact Below.refl _ _ | apply Bl.alloc)) (by simp <;> omega))
  case hl => exact rints_boxD _ (Bx.at0 _ _ _ (by simp <;> omega)) (by simp <;> omega)
  case oc => exact own_box1 (by repeat (first | (refine Bx.at0 _ _ _ ?_; (simp; done)) | apply Bx.alloc))
  case ne => simp [Value.ownBlock]
  case dc =>
    intro k hk
    simp [Value.ownBlock] at hk ⊢
    omega
  case om => exact World.ownsRow_nil _ _ _ _
  case dm => simp [Value.ownBlock]
  case hD => simp
  case hn => simp; try omega
  rintro e w1 ⟨vc, vm, rfl, oc, om, ne, bc, bm, ch⟩
  obtain ⟨Ac, kc, rfl⟩ := own_shape oc
  obtain ⟨Am, km, rfl⟩ := own_shape om
  have RC := Lib.hid (RInts.of_own [w.heap.size + 2] oc (fun k hk hm => by
    have := bc k hk
    simp at this hm
    omega))
  have RM := Lib.hid (RInts.of_own [w.heap.size + 2] om (fun k hk hm => by
    have := bm k hk
    simp at this hm
    omega))
  have bR := Bx.chg (D := [w.heap.size + 1 + 1 + 1]) (w' := w1) (b := w.heap.size + 1 + 1) (t := 40) (cs := #[.slice none 0 0, .slice none 0 0, .slice none 0 0, .slice none 0 0, .slice none 0 0]) (by repeat (first | (refine Bx.at0 _ _ _ ?_; (simp; done)) | apply Bx.alloc)) ch (by simp <;> omega)
  have HB1 := Lib.hid (Bl.chg (w := w) (by repeat (first | apply Bl.alloc | exact Below.refl _ _)) ch (by simp <;> omega))
  clear ch oc om ne bc bm
  have cR := bR.cell
  have fR := bR.frozen
  clear bR
  go_wp2_with fail
  rw [HU.out]
  refine bodyPost_ret (v := ?v1) ?h1 rfl ?r1
  case h1 =>
    simp [results, Tryz.results127, go_sem, cR, fR] <;> rfl
  case r1 =>
    refine ⟨⟨_, rfl, _, _, _, _, _, rfl, ?_, ?_, RSl.nil _ _ _, ?_, ?_⟩, ?_⟩
    · exact RC.out.mono monoInt (Chg.le' (by repeat (first | refine Chg.put ?_ (.inl (by simp <;> omega)) _ | exact Chg.refl _ w1)))
    · exact RM.out.mono monoInt (Chg.le' (by repeat (first | refine Chg.put ?_ (.inl (by simp <;> omega)) _ | exact Chg.refl _ w1)))
    · exact RSl.nil _ _ _
    · exact RSl.nil _ _ _
    · exact Bl.chg HB1.out (D := [w.heap.size + 2]) (by repeat (first | refine Chg.put ?_ (.inl (by simp <;> omega)) _ | exact Chg.refl _ w1)) (by simp <;> omega)
set_option maxHeartbeats 4000000 in
set_option maxRecDepth 100000 in
theorem gu129_any (v vx : Value) (F : Fn) (x : Ins) (w : World) (hF : RFn w.cell? v F) (hx : RIns w.cell? vx x) (hn : x.args.length ≤ 100000) :
    Calls Tryz.prog 129 #[v, vx] w (UsPost w (takes F ⟨[], [], [], [], []⟩ x.args)) := by
  obtain ⟨mo, pa, ar, vb, vr, vl', vk, vt, Ab, At, nb, cb, nt, ct, rfl, rfl, rfl, m1, m2, ⟨Ar, kr, rfl, hr1, hr2, hr3⟩, ⟨Al, kl, rfl, h1, h2, hL⟩, ⟨Ak, kk, rfl, hk1, hk2, hk3⟩⟩ := id hF
  obtain ⟨va, vy, rfl, ⟨Aa, ka, rfl, ha1, ha2, ha3⟩, ⟨Ay, ky, rfl, hy1, hy2, hy3⟩⟩ := id hx
  clear hr3 hk3 hL
  have HF := Lib.hid (fun c (hc : Le w.cell? c) => hF.mono hc)
  have HX := Lib.hid (fun c (hc : Le w.cell? c) => hx.mono hc)
  have HA : Hid (∀ c, Le w.cell? c → RInts c (.slice Aa x.args.length ka) x.args) := fun c hc => ⟨Aa, ka, rfl, ha1, ha2, ha3.mono monoInt hc⟩
  clear hF hx ha3 hy3
  have HU : Hid (takes F ⟨[], [], [], [], []⟩ x.args = ⟨(tkU F [] [] x.args).copies, (tkU F [] [] x.args).moves, [], [], []⟩) := takes_eq _ _ _
  go_enter Tryz.func129, Tryz.ntmps129
  go_wp2_with fail
  refine (gtakes_any [] _ F _ _ _ _ _ _ _ _ _ _ _ _ [] [] x.args _ ?hF ?hl ?oc ?om ?ne ?dc ?dm ?hD ?hn).mono ?_
  case hF => exact HF.out _ (le_lookD (by repeat (first | exact Below.refl _ _ | apply Bl.alloc)) (by simp <;> omega))
  case hl => exact HA.out _ (le_lookD (by repeat (first | exact Below.refl _ _ | apply Bl.alloc)) (by simp <;> omega))
  case oc => exact World.ownsRow_nil _ _ _ _
  case ne => simp [Value.ownBlock]
  case dc => simp [Value.ownBlock]
  case om => exact World.ownsRow_nil _ _ _ _
  case dm => simp [Value.ownBlock]
  case hD => simp
  case hn => simp; try omega
  rintro e w1 ⟨vc, vm, rfl, oc, om, ne, bc, bm, ch⟩
  obtain ⟨Ac, kc, rfl⟩ := own_shape oc
  obtain ⟨Am, km, rfl⟩ := own_shape om
  have RC := Lib.hid (RInts.of_own [w.heap.size + 2] oc (fun k hk hm => by
    have := bc k hk
    simp at this hm
    omega))
  have RM := Lib.hid (RInts.of_own [w.heap.size + 2] om (fun k hk hm => by
    have := bm k hk
    simp at this hm
    omega))
  have bR := Bx.chg (D := []) (w' := w1) (b := w.heap.size + 1 + 1) (t := 40) (cs := #[.slice none 0 0, .slice none 0 0, .slice none 0 0, .slice none 0 0, .slice none 0 0]) (by repeat (first | (refine Bx.at0 _ _ _ ?_; (simp; done)) | apply Bx.alloc)) ch (by simp <;> omega)
  have HB1 := Lib.hid (Bl.chg (w := w) (by repeat (first | apply Bl.alloc | exact Below.refl _ _)) ch (by simp <;> omega))
  clear ch oc om ne bc bm
  have cR := bR.cell
  have fR := bR.frozen
  clear bR
  go_wp2_with fail
  rw [HU.out]
  refine bodyPost_ret (v := ?v1) ?h1 rfl ?r1
  case h1 =>
    simp [results, Tryz.results129, go_sem, cR, fR] <;> rfl
  case r1 =>
    refine ⟨⟨_, rfl, _, _, _, _, _, rfl, ?_, ?_, RSl.nil _ _ _, ?_, ?_⟩, ?_⟩
    · exact RC.out.mono monoInt (Chg.le' (by repeat (first | refine Chg.put ?_ (.inl (by simp <;> omega)) _ | exact Chg.refl _ w1)))
    · exact RM.out.mono monoInt (Chg.le' (by repeat (first | refine Chg.put ?_ (.inl (by simp <;> omega)) _ | exact Chg.refl _ w1)))
    · exact RSl.nil _ _ _
    · exact RSl.nil _ _ _
    · exact Bl.chg HB1.out (D := [w.heap.size + 2]) (by repeat (first | refine Chg.put ?_ (.inl (by simp <;> omega)) _ | exact Chg.refl _ w1)) (by simp <;> omega)
set_option maxHeartbeats 4000000 in
set_option maxRecDepth 100000 in
theorem gu107_any (v vx : Value) (F : Fn) (x : Ins) (w : World) (hF : RFn w.cell? v F) (hx : RIns w.cell? vx x) (hn : x.args.length ≤ 100000) :
    Calls Tryz.prog 107 #[v, vx] w (UsPost w (lent F x.a x.dst [x.dst])) := by
  obtain ⟨mo, pa, ar, vb, vr, vl', vk, vt, Ab, At, nb, cb, nt, ct, rfl, rfl, rfl, m1, m2, ⟨Ar, kr, rfl, hr1, hr2, hr3⟩, ⟨Al, kl, rfl, h1, h2, hL⟩, ⟨Ak, kk, rfl, hk1, hk2, hk3⟩⟩ := id hF
  obtain ⟨va, vy, rfl, ⟨Aa, ka, rfl, ha1, ha2, ha3⟩, ⟨Ay, ky, rfl, hy1, hy2, hy3⟩⟩ := id hx
  clear hr3 hk3 hL
  have HF := Lib.hid (fun c (hc : Le w.cell? c) => hF.mono hc)
  have HX := Lib.hid (fun c (hc : Le w.cell? c) => hx.mono hc)
  have HA : Hid (∀ c, Le w.cell? c → RInts c (.slice Aa x.args.length ka) x.args) := fun c hc => ⟨Aa, ka, rfl, ha1, ha2, ha3.mono monoInt hc⟩
  clear hF hx ha3 hy3
  go_enter Tryz.func107, Tryz.ntmps107
  go_wp2_with fail
  refine (glends_any _ _ _ F x x.dst [x.dst] _ (HF.out _ (Bl.le (by repeat (first | exact Below.refl _ _ | apply Bl.alloc)))) (HX.out _ (Bl.le (by repeat (first | exact Below.refl _ _ | apply Bl.alloc)))) ?hd).mono ?_
  case hd => exact rints_box1 (Bx.at0 _ _ _ (by simp <;> omega))
  rintro e w1 ⟨⟨vu, rfl, hu⟩, hb1⟩
  obtain ⟨u, hU⟩ : ∃ u, u = lent F x.a x.dst [x.dst] := ⟨_, rfl⟩
  rw [← hU] at hu
  have HUE := Lib.hid hU
  clear hU
  have bR := Bx.below (w' := w1) (b := w.heap.size + 1 + 1) (t := 40) (cs := #[.slice none 0 0, .slice none 0 0, .slice none 0 0, .slice none 0 0, .slice none 0 0]) (by repeat (first | (refine Bx.at0 _ _ _ ?_; (simp; done)) | apply Bx.alloc)) hb1
  have RU := Lib.hid (RUs.avoid hu bR nil5_no)
  obtain ⟨A0, k0, A1, k1, A2, k2, A3, k3, A4, k4, rfl⟩ := hu.open
  have HB1 := Lib.hid (Bl.call (w := w) (by repeat (first | apply Bl.alloc | exact Below.refl _ _)) hb1)
  clear hb1 hu
  have cR := bR.cell
  have fR := bR.frozen
  clear bR
  go_wp2_with fail
  refine bodyPost_ret (v := ?v1) ?h1 rfl ?r1
  case h1 =>
    simp [results, Tryz.results107, go_sem, cR, fR] <;> rfl
  case r1 =>
    rw [← HUE.out]
    refine ⟨⟨_, rfl, RU.out.mono (Chg.le' ((Chg.refl [w.heap.size + 1 + 1] w1).put5 (.inl (by simp)) _ _ _ _ _))⟩, ?_⟩
    exact Bl.chg HB1.out (D := [w.heap.size + 2]) (by repeat (first | refine Chg.put ?_ (.inl (by simp <;> omega)) _ | exact Chg.refl _ w1)) (by simp <;> omega)
set_option maxHeartbeats 4000000 in
set_option maxRecDepth 100000 in
theorem gu109_any (v vx : Value) (F : Fn) (x : Ins) (w : World) (hF : RFn w.cell? v F) (hx : RIns w.cell? vx x) (hn : x.args.length ≤ 100000) :
    Calls Tryz.prog 109 #[v, vx] w (UsPost w (lent F x.a x.a x.args)) := by
  obtain ⟨mo, pa, ar, vb, vr, vl', vk, vt, Ab, At, nb, cb, nt, ct, rfl, rfl, rfl, m1, m2, ⟨Ar, kr, rfl, hr1, hr2, hr3⟩, ⟨Al, kl, rfl, h1, h2, hL⟩, ⟨Ak, kk, rfl, hk1, hk2, hk3⟩⟩ := id hF
  obtain ⟨va, vy, rfl, ⟨Aa, ka, rfl, ha1, ha2, ha3⟩, ⟨Ay, ky, rfl, hy1, hy2, hy3⟩⟩ := id hx
  clear hr3 hk3 hL
  have HF := Lib.hid (fun c (hc : Le w.cell? c) => hF.mono hc)
  have HX := Lib.hid (fun c (hc : Le w.cell? c) => hx.mono hc)
  have HA : Hid (∀ c, Le w.cell? c → RInts c (.slice Aa x.args.length ka) x.args) := fun c hc => ⟨Aa, ka, rfl, ha1, ha2, ha3.mono monoInt hc⟩
  clear hF hx ha3 hy3
  go_enter Tryz.func109, Tryz.ntmps109
  go_wp2_with fail
  refine (glends_any _ _ _ F x x.a x.args _ (HF.out _ (Bl.le (by repeat (first | exact Below.refl _ _ | apply Bl.alloc)))) (HX.out _ (Bl.le (by repeat (first | exact Below.refl _ _ | apply Bl.alloc)))) ?hd).mono ?_
  case hd => exact HA.out _ (Bl.le (by repeat (first | exact Below.refl _ _ | apply Bl.alloc)))
  rintro e w1 ⟨⟨vu, rfl, hu⟩, hb1⟩
  obtain ⟨u, hU⟩ : ∃ u, u = lent F x.a x.a x.args := ⟨_, rfl⟩
  rw [← hU] at hu
  have HUE := Lib.hid hU
  clear hU
  have bR := Bx.below (w' := w1) (b := w.heap.size + 1 + 1) (t := 40) (cs := #[.slice none 0 0, .slice none 0 0, .slice none 0 0, .slice none 0 0, .slice none 0 0]) (by repeat (first | (refine Bx.at0 _ _ _ ?_; (simp; done)) | apply Bx.alloc)) hb1
  have RU := Lib.hid (RUs.avoid hu bR nil5_no)
  obtain ⟨A0, k0, A1, k1, A2, k2, A3, k3, A4, k4, rfl⟩ := hu.open
  have HB1 := Lib.hid (Bl.call (w := w) (by repeat (first | apply Bl.alloc | exact Below.refl _ _)) hb1)
  clear hb1 hu
  have cR := bR.cell
  have fR := bR.frozen
  clear bR
  go_wp2_with fail
  refine bodyPost_ret (v := ?v1) ?h1 rfl ?r1
  case h1 =>
    simp [results, Tryz.results109, go_sem, cR, fR] <;> rfl
  case r1 =>
    rw [← HUE.out]
    refine ⟨⟨_, rfl, RU.out.mono (Chg.le' ((Chg.refl [w.heap.size + 1 + 1] w1).put5 (.inl (by simp)) _ _ _ _ _))⟩, ?_⟩
    exact Bl.chg HB1.out (D := [w.heap.size + 2]) (by repeat (first | refine Chg.put ?_ (.inl (by simp <;> omega)) _ | exact Chg.refl _ w1)) (by simp <;> omega)
end Go.Proofs.YtdkjkgokllmkmaaGreatDoor.Lv
