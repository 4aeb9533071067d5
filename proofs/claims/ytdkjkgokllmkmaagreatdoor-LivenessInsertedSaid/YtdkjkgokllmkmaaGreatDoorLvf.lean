/- Walks: the uses of an instruction (the reference's): what takes its operands. -/
import Derived.Test.YtdkjkgokllmkmaaGreatDoorLve
import Derived.Deep.DeepCutAuto
namespace Go.Proofs.YtdkjkgokllmkmaaGreatDoor.Lv
open Go.RowKit
set_option linter.unusedVariables false
set_option linter.unusedSimpArgs false
theorem Chg.allo {D : List Nat} {W w : World} (h : Chg D W w) (o : Obj) : Chg D W (w.alloc o) := h.trans (Chg.alloc _ _ _)
theorem Chg.rule {D : List Nat} {W w1 : World} (ch : Chg D W w1) : (∀ b o, b < W.heap.size → b ∉ D → w1.cell? ⟨b, o, none⟩ = W.cell? ⟨b, o, none⟩) ∧ (∀ b o, b < W.heap.size → b ∉ D → w1.frozen? ⟨b, o, none⟩ = W.frozen? ⟨b, o, none⟩) :=
  ⟨fun b o h hd => by simp [World.cell?, ch.block b h hd], fun b o h hd => by simp [World.frozen?, ch.block b h hd]⟩
abbrev set5 (w : World) (b : Nat) (u0 u1 u2 u3 u4 : Value) : World := ((((w.setCell ⟨b, 0, none⟩ u0).setCell ⟨b, 1, none⟩ u1).setCell ⟨b, 2, none⟩ u2).setCell ⟨b, 3, none⟩ u3).setCell ⟨b, 4, none⟩ u4
theorem Bx.set5 {w : World} {b t : Nat} {a0 a1 a2 a3 a4 : Value} (h : Bx w b t #[a0, a1, a2, a3, a4]) (u0 u1 u2 u3 u4 : Value) : Bx (set5 w b u0 u1 u2 u3 u4) b t #[u0, u1, u2, u3, u4] := by
  simpa using ((((h.set 0 u0).set 1 u1).set 2 u2).set 3 u3).set 4 u4
theorem Bx.far5 {w : World} {b b' t : Nat} {cs : Array Value} (h : Bx w b' t cs) (hb : b' ≠ b) (u0 u1 u2 u3 u4 : Value) : Bx (Lv.set5 w b u0 u1 u2 u3 u4) b' t cs :=
  ((((h.far hb u0).far hb u1).far hb u2).far hb u3).far hb u4
theorem Chg.put5 {D : List Nat} {W w : World} (h : Chg D W w) {b : Nat} (hp : b ∈ D ∨ W.heap.size ≤ b) (u0 u1 u2 u3 u4 : Value) : Chg D W (Lv.set5 w b u0 u1 u2 u3 u4) :=
  ((((h.put hp u0).put hp u1).put hp u2).put hp u3).put hp u4
theorem Chg.rule4 {D : List Nat} {W w1 : World} (ch : Chg D W w1) (n : Nat) (hn : n ≤ W.heap.size) (hd : ∀ k, k ∈ D → n ≤ k) :
    (∀ b o, b < n → w1.cell? ⟨b, o, none⟩ = W.cell? ⟨b, o, none⟩) ∧ (∀ b o, b < n → w1.frozen? ⟨b, o, none⟩ = W.frozen? ⟨b, o, none⟩) :=
  ⟨fun b o h => by simp [World.cell?, ch.block b (by omega) (fun hm => by have := hd _ hm; omega)], fun b o h => by simp [World.frozen?, ch.block b (by omega) (fun hm => by have := hd _ hm; omega)]⟩
theorem own_box1 {w : World} {b : Nat} {x : Int} (h : Bx w b 3 #[.int .i64 x]) : w.ownsRow 0 3 1 (.slice (some ⟨b, 0, none⟩) 1 1) 1 (ints [x]) :=
  ⟨by simp, .inr ⟨b, 1, _, rfl, Nat.zero_le _, h, Nat.le_refl _, by simp [maxLen], by simp, by simp⟩⟩
theorem own_shape {w : World} {base e sz n : Nat} {v : Value} {xs : List Value} (h : w.ownsRow base e sz v n xs) : ∃ A k, v = .slice A n k := by
  rcases h.2 with ⟨rfl, h0⟩ | ⟨g, cap, cur, rfl, _⟩
  · exact ⟨none, 0, by rw [h0]⟩
  · exact ⟨_, _, rfl⟩
theorem le_lookD {D : List Nat} {w W : World} (h : Below w.heap.size w W) (hd : ∀ k, k ∈ D → w.heap.size ≤ k) : Le w.cell? (look D W) := by
  intro a v e
  have hb := World.block_lt_of_cell? w a e
  refine cell_look (fun hm => ?_) (Bl.le h a v e)
  have := hd _ hm
  omega
theorem rints_boxD {w : World} {b : Nat} {x : Int} (D : List Nat) (h : Bx w b 3 #[.int .i64 x]) (hb : b ∉ D) : RInts (look D w) (.slice (some ⟨b, 0, none⟩) 1 1) [x] :=
  RInts.of_own (xs := [x]) (e := 3) (base := 0) D ⟨by simp, .inr ⟨b, 1, _, rfl, Nat.zero_le _, h, Nat.le_refl _, by simp [maxLen], by simp, by simp⟩⟩ (fun k hk => by
    simp only [Value.ownBlock, Option.some.injEq] at hk
    exact hk ▸ hb)
set_option maxHeartbeats 4000000 in
set_option maxRecDepth 100000 in
theorem uses_op7 (v vx : Value) (F : Fn) (x : Ins) (w : World) (hF : RFn w.cell? v F) (hx : RIns w.cell? vx x) (hn : x.args.length ≤ 100000) (ho : x.op = 7) :
    Calls Tryz.prog 37 #[v, vx] w (UsPost w (usesOf F x)) := by
  obtain ⟨mo, pa, ar, vb, vr, vl', vk, vt, Ab, At, nb, cb, nt, ct, rfl, rfl, rfl, m1, m2, ⟨Ar, kr, rfl, hr1, hr2, hr3⟩, ⟨Al, kl, rfl, h1, h2, hL⟩, ⟨Ak, kk, rfl, hk1, hk2, hk3⟩⟩ := id hF
  obtain ⟨va, vy, rfl, ⟨Aa, ka, rfl, ha1, ha2, ha3⟩, ⟨Ay, ky, rfl, hy1, hy2, hy3⟩⟩ := id hx
  clear hr3 hk3 hL hy3
  have HF := Lib.hid (fun c (hc : Le w.cell? c) => hF.mono hc)
  have HA : Hid (∀ c, Le w.cell? c → RInts c (.slice Aa x.args.length ka) x.args) := fun c hc => ⟨Aa, ka, rfl, ha1, ha2, ha3.mono monoInt hc⟩
  clear hF hx ha3
  have HU : Hid (usesOf F x = ⟨(tkU F [] [] [x.a]).copies, (tkU F [] [] [x.a]).moves, [], [], [x.dst]⟩) := by
    show usesOf F x = _
    rw [show usesOf F x = takes F ⟨[], [], [], [], [x.dst]⟩ [x.a] by simp [usesOf, ho, u0], takes_eq]
  all_goals
    rw [ho]
    clear ho
    go_enter Tryz.func37, Tryz.ntmps37
    go_wp2_with fail
    refine (taken_any [] _ F _ _ _ _ _ _ _ _ _ _ _ _ [] [] [x.a] _ ?hF ?hl ?oc ?om ?ne ?dc ?dm ?hD ?hn).mono ?_
    case hF => exact HF.out _ (le_lookD (by repeat (first | exact Below.refl _ _ | apply Bl.alloc)) (by simp))
    case hl => exact rints_boxD _ (Bx.at0 _ _ _ (by simp)) (by simp)
    case oc => exact World.ownsRow_nil _ _ _ _
    case ne => simp [Value.ownBlock]
    case dc => simp [Value.ownBlock]
    case om => exact World.ownsRow_nil _ _ _ _
    case dm => simp [Value.ownBlock]
    case hD => simp
    case hn => simp; try omega
    rintro e w1 ⟨vc, vm, rfl, oc, om, ne, bc, bm, ch⟩
    obtain ⟨Ac, kc, rfl⟩ := own_shape oc
    obtain ⟨Am, km, rfl⟩ := own_shape om
    have hz := ch.size
    simp only [World.size_alloc] at hz
    have RC := Lib.hid (RInts.of_own [w.heap.size + 2, w.heap.size + 3] oc (fun k hk hm => by
      have := bc k hk
      simp at this hm
      omega))
    have RM := Lib.hid (RInts.of_own [w.heap.size + 2, w.heap.size + 3] om (fun k hk hm => by
      have := bm k hk
      simp at this hm
      omega))
    have bX := Bx.chg (D := []) (w' := w1) (b := w.heap.size + 1) (t := 55) (cs := #[.int .i64 7, .int .i64 x.dst, .int .i64 x.a, .int .i64 x.b, .int .i64 x.n, .slice Aa x.args.length ka, .slice Ay x.types.length ky]) (by repeat (first | (refine Bx.at0 _ _ _ ?_; (simp; done)) | apply Bx.alloc)) ch (by simp)
    have bR := Bx.chg (D := []) (w' := w1) (b := w.heap.size + 1 + 1) (t := 40) (cs := #[.slice none 0 0, .slice none 0 0, .slice none 0 0, .slice none 0 0, .slice none 0 0]) (by repeat (first | (refine Bx.at0 _ _ _ ?_; (simp; done)) | apply Bx.alloc)) ch (by simp)
    have bU := Bx.chg (D := []) (w' := w1) (b := w.heap.size + 1 + 1 + 1) (t := 40) (cs := #[.slice none 0 0, .slice none 0 0, .slice none 0 0, .slice none 0 0, .slice none 0 0]) (by repeat (first | (refine Bx.at0 _ _ _ ?_; (simp; done)) | apply Bx.alloc)) ch (by simp)
    have HB1 := Lib.hid (Bl.chg (w := w) (by repeat (first | apply Bl.alloc | exact Below.refl _ _)) ch (by simp))
    clear ch oc om ne bc bm
    have HZ := Lib.hid hz
    clear hz
    have cU := bU.cell
    have fU := bU.frozen
    go_upto_region 51 with fail
    clear cU fU
    generalize hW2 : World.setCell (World.setCell (World.setCell (World.setCell (World.setCell w1 _ _) _ _) _ _) _ _) _ _ = W2
    have bX2 : Bx W2 (w.heap.size + 1) 55 #[.int .i64 7, .int .i64 x.dst, .int .i64 x.a, .int .i64 x.b, .int .i64 x.n, .slice Aa x.args.length ka, .slice Ay x.types.length ky] := by rw [← hW2]; exact bX.far5 (by simp) _ _ _ _ _
    have bR2 : Bx W2 (w.heap.size + 1 + 1) 40 #[.slice none 0 0, .slice none 0 0, .slice none 0 0, .slice none 0 0, .slice none 0 0] := by rw [← hW2]; exact bR.far5 (by simp) _ _ _ _ _
    have bU2 : Bx W2 (w.heap.size + 1 + 1 + 1) 40 #[.slice Ac (tkU F [] [] [x.a]).copies.length kc, .slice Am (tkU F [] [] [x.a]).moves.length km, .slice none 0 0, .slice none 0 0, .slice none 0 0] := by rw [← hW2]; exact bU.set5 _ _ _ _ _
    have CH2 : Hid (Chg [w.heap.size + 2, w.heap.size + 3] w1 W2) := by rw [← hW2]; exact (Chg.refl _ _).put5 (.inl (by simp)) _ _ _ _ _
    clear hW2 bX bR bU
    have cX := bX2.cell
    have cU := bU2.cell
    have fU := bU2.frozen
    have lU := bU2.lt
    have lR := bR2.lt
    go_upto_region 52 with fail
    clear cX cU fU
    have HL2 := Lib.hid (show w.heap.size + 1 + 1 + 1 < W2.heap.size from lU)
    obtain ⟨B4, hB4⟩ : ∃ B4, B4 = W2.heap.size := ⟨_, rfl⟩
    rw [← hB4]
    generalize hW3 : World.alloc (World.setCell W2 _ _) _ = W3
    have bR3 : Bx W3 (w.heap.size + 1 + 1) 40 #[.slice none 0 0, .slice none 0 0, .slice none 0 0, .slice none 0 0, .slice none 0 0] := by rw [← hW3]; exact (bR2.far (by simp) _).alloc _
    have bU3 : Bx W3 (w.heap.size + 1 + 1 + 1) 40 #[.slice Ac (tkU F [] [] [x.a]).copies.length kc, .slice Am (tkU F [] [] [x.a]).moves.length km, .slice none 0 0, .slice none 0 0, .slice (some ⟨B4, 0, none⟩) 1 1] := by rw [← hW3]; simpa using (bU2.set 4 _).alloc _
    have b4 : Bx W3 B4 3 #[.int .i64 x.dst] := by rw [← hW3]; exact Bx.at0 _ 3 _ (by simpa [World.setCell] using hB4)
    have CH3 : Hid (Chg [w.heap.size + 2, w.heap.size + 3] w1 W3) := by rw [← hW3]; exact (CH2.out.put (.inl (by simp)) _).allo _
    have RD := Lib.hid (rints_boxD [w.heap.size + 2, w.heap.size + 3] b4 (by simp; omega))
    clear hW3 bX2 bR2 bU2 CH2 lU lR b4 hB4
    have cR := bR3.cell
    have fR := bR3.frozen
    have cU := bU3.cell
    clear bR3 bU3
    go_wp2_with fail
    rw [HU.out]
    refine bodyPost_ret (v := ?v) ?h rfl ?r
    case h =>
      simp [results, Tryz.results37, go_sem, cR, fR, cU] <;> rfl
    case r =>
      refine ⟨⟨_, rfl, _, _, _, _, _, rfl, ?_, ?_, ?_, ?_, ?_⟩, ?_⟩
      · exact RC.out.mono monoInt (Chg.le' (by repeat (first | refine Chg.put ?_ (.inl (by simp)) _ | exact CH3.out)))
      · exact RM.out.mono monoInt (Chg.le' (by repeat (first | refine Chg.put ?_ (.inl (by simp)) _ | exact CH3.out)))
      · exact RSl.nil _ _ _
      · exact RSl.nil _ _ _
      · exact RD.out.mono monoInt (Chg.le' (by repeat (first | refine Chg.put ?_ (.inl (by simp)) _ | exact Chg.refl _ W3)))
      · exact Bl.chg HB1.out (D := [w.heap.size + 2, w.heap.size + 3]) (by repeat (first | refine Chg.put ?_ (.inl (by simp)) _ | exact CH3.out)) (by simp)
set_option maxHeartbeats 4000000 in
set_option maxRecDepth 100000 in
theorem uses_op10 (v vx : Value) (F : Fn) (x : Ins) (w : World) (hF : RFn w.cell? v F) (hx : RIns w.cell? vx x) (hn : x.args.length ≤ 100000) (ho : x.op = 10) :
    Calls Tryz.prog 37 #[v, vx] w (UsPost w (usesOf F x)) := by
  obtain ⟨mo, pa, ar, vb, vr, vl', vk, vt, Ab, At, nb, cb, nt, ct, rfl, rfl, rfl, m1, m2, ⟨Ar, kr, rfl, hr1, hr2, hr3⟩, ⟨Al, kl, rfl, h1, h2, hL⟩, ⟨Ak, kk, rfl, hk1, hk2, hk3⟩⟩ := id hF
  obtain ⟨va, vy, rfl, ⟨Aa, ka, rfl, ha1, ha2, ha3⟩, ⟨Ay, ky, rfl, hy1, hy2, hy3⟩⟩ := id hx
  clear hr3 hk3 hL hy3
  have HF := Lib.hid (fun c (hc : Le w.cell? c) => hF.mono hc)
  have HA : Hid (∀ c, Le w.cell? c → RInts c (.slice Aa x.args.length ka) x.args) := fun c hc => ⟨Aa, ka, rfl, ha1, ha2, ha3.mono monoInt hc⟩
  clear hF hx ha3
  have HU : Hid (usesOf F x = ⟨(tkU F [] [] [x.a]).copies, (tkU F [] [] [x.a]).moves, [], [], [x.dst]⟩) := by
    show usesOf F x = _
    rw [show usesOf F x = takes F ⟨[], [], [], [], [x.dst]⟩ [x.a] by simp [usesOf, ho, u0], takes_eq]
  all_goals
    rw [ho]
    clear ho
    go_enter Tryz.func37, Tryz.ntmps37
    go_wp2_with fail
    refine (taken_any [] _ F _ _ _ _ _ _ _ _ _ _ _ _ [] [] [x.a] _ ?hF ?hl ?oc ?om ?ne ?dc ?dm ?hD ?hn).mono ?_
    case hF => exact HF.out _ (le_lookD (by repeat (first | exact Below.refl _ _ | apply Bl.alloc)) (by simp))
    case hl => exact rints_boxD _ (Bx.at0 _ _ _ (by simp)) (by simp)
    case oc => exact World.ownsRow_nil _ _ _ _
    case ne => simp [Value.ownBlock]
    case dc => simp [Value.ownBlock]
    case om => exact World.ownsRow_nil _ _ _ _
    case dm => simp [Value.ownBlock]
    case hD => simp
    case hn => simp; try omega
    rintro e w1 ⟨vc, vm, rfl, oc, om, ne, bc, bm, ch⟩
    obtain ⟨Ac, kc, rfl⟩ := own_shape oc
    obtain ⟨Am, km, rfl⟩ := own_shape om
    have hz := ch.size
    simp only [World.size_alloc] at hz
    have RC := Lib.hid (RInts.of_own [w.heap.size + 2, w.heap.size + 3] oc (fun k hk hm => by
      have := bc k hk
      simp at this hm
      omega))
    have RM := Lib.hid (RInts.of_own [w.heap.size + 2, w.heap.size + 3] om (fun k hk hm => by
      have := bm k hk
      simp at this hm
      omega))
    have bX := Bx.chg (D := []) (w' := w1) (b := w.heap.size + 1) (t := 55) (cs := #[.int .i64 10, .int .i64 x.dst, .int .i64 x.a, .int .i64 x.b, .int .i64 x.n, .slice Aa x.args.length ka, .slice Ay x.types.length ky]) (by repeat (first | (refine Bx.at0 _ _ _ ?_; (simp; done)) | apply Bx.alloc)) ch (by simp)
    have bR := Bx.chg (D := []) (w' := w1) (b := w.heap.size + 1 + 1) (t := 40) (cs := #[.slice none 0 0, .slice none 0 0, .slice none 0 0, .slice none 0 0, .slice none 0 0]) (by repeat (first | (refine Bx.at0 _ _ _ ?_; (simp; done)) | apply Bx.alloc)) ch (by simp)
    have bU := Bx.chg (D := []) (w' := w1) (b := w.heap.size + 1 + 1 + 1) (t := 40) (cs := #[.slice none 0 0, .slice none 0 0, .slice none 0 0, .slice none 0 0, .slice none 0 0]) (by repeat (first | (refine Bx.at0 _ _ _ ?_; (simp; done)) | apply Bx.alloc)) ch (by simp)
    have HB1 := Lib.hid (Bl.chg (w := w) (by repeat (first | apply Bl.alloc | exact Below.refl _ _)) ch (by simp))
    clear ch oc om ne bc bm
    have HZ := Lib.hid hz
    clear hz
    have cU := bU.cell
    have fU := bU.frozen
    go_upto_region 51 with fail
    clear cU fU
    generalize hW2 : World.setCell (World.setCell (World.setCell (World.setCell (World.setCell w1 _ _) _ _) _ _) _ _) _ _ = W2
    have bX2 : Bx W2 (w.heap.size + 1) 55 #[.int .i64 10, .int .i64 x.dst, .int .i64 x.a, .int .i64 x.b, .int .i64 x.n, .slice Aa x.args.length ka, .slice Ay x.types.length ky] := by rw [← hW2]; exact bX.far5 (by simp) _ _ _ _ _
    have bR2 : Bx W2 (w.heap.size + 1 + 1) 40 #[.slice none 0 0, .slice none 0 0, .slice none 0 0, .slice none 0 0, .slice none 0 0] := by rw [← hW2]; exact bR.far5 (by simp) _ _ _ _ _
    have bU2 : Bx W2 (w.heap.size + 1 + 1 + 1) 40 #[.slice Ac (tkU F [] [] [x.a]).copies.length kc, .slice Am (tkU F [] [] [x.a]).moves.length km, .slice none 0 0, .slice none 0 0, .slice none 0 0] := by rw [← hW2]; exact bU.set5 _ _ _ _ _
    have CH2 : Hid (Chg [w.heap.size + 2, w.heap.size + 3] w1 W2) := by rw [← hW2]; exact (Chg.refl _ _).put5 (.inl (by simp)) _ _ _ _ _
    clear hW2 bX bR bU
    have cX := bX2.cell
    have cU := bU2.cell
    have fU := bU2.frozen
    have lU := bU2.lt
    have lR := bR2.lt
    go_upto_region 52 with fail
    clear cX cU fU
    have HL2 := Lib.hid (show w.heap.size + 1 + 1 + 1 < W2.heap.size from lU)
    obtain ⟨B4, hB4⟩ : ∃ B4, B4 = W2.heap.size := ⟨_, rfl⟩
    rw [← hB4]
    generalize hW3 : World.alloc (World.setCell W2 _ _) _ = W3
    have bR3 : Bx W3 (w.heap.size + 1 + 1) 40 #[.slice none 0 0, .slice none 0 0, .slice none 0 0, .slice none 0 0, .slice none 0 0] := by rw [← hW3]; exact (bR2.far (by simp) _).alloc _
    have bU3 : Bx W3 (w.heap.size + 1 + 1 + 1) 40 #[.slice Ac (tkU F [] [] [x.a]).copies.length kc, .slice Am (tkU F [] [] [x.a]).moves.length km, .slice none 0 0, .slice none 0 0, .slice (some ⟨B4, 0, none⟩) 1 1] := by rw [← hW3]; simpa using (bU2.set 4 _).alloc _
    have b4 : Bx W3 B4 3 #[.int .i64 x.dst] := by rw [← hW3]; exact Bx.at0 _ 3 _ (by simpa [World.setCell] using hB4)
    have CH3 : Hid (Chg [w.heap.size + 2, w.heap.size + 3] w1 W3) := by rw [← hW3]; exact (CH2.out.put (.inl (by simp)) _).allo _
    have RD := Lib.hid (rints_boxD [w.heap.size + 2, w.heap.size + 3] b4 (by simp; omega))
    clear hW3 bX2 bR2 bU2 CH2 lU lR b4 hB4
    have cR := bR3.cell
    have fR := bR3.frozen
    have cU := bU3.cell
    clear bR3 bU3
    go_wp2_with fail
    rw [HU.out]
    refine bodyPost_ret (v := ?v) ?h rfl ?r
    case h =>
      simp [results, Tryz.results37, go_sem, cR, fR, cU] <;> rfl
    case r =>
      refine ⟨⟨_, rfl, _, _, _, _, _, rfl, ?_, ?_, ?_, ?_, ?_⟩, ?_⟩
      · exact RC.out.mono monoInt (Chg.le' (by repeat (first | refine Chg.put ?_ (.inl (by simp)) _ | exact CH3.out)))
      · exact RM.out.mono monoInt (Chg.le' (by repeat (first | refine Chg.put ?_ (.inl (by simp)) _ | exact CH3.out)))
      · exact RSl.nil _ _ _
      · exact RSl.nil _ _ _
      · exact RD.out.mono monoInt (Chg.le' (by repeat (first | refine Chg.put ?_ (.inl (by simp)) _ | exact Chg.refl _ W3)))
      · exact Bl.chg HB1.out (D := [w.heap.size + 2, w.heap.size + 3]) (by repeat (first | refine Chg.put ?_ (.inl (by simp)) _ | exact CH3.out)) (by simp)
set_option maxHeartbeats 4000000 in
set_option maxRecDepth 100000 in
theorem uses_op8 (v vx : Value) (F : Fn) (x : Ins) (w : World) (hF : RFn w.cell? v F) (hx : RIns w.cell? vx x) (hn : x.args.length ≤ 100000) (ho : x.op = 8) :
    Calls Tryz.prog 37 #[v, vx] w (UsPost w (usesOf F x)) := by
  obtain ⟨mo, pa, ar, vb, vr, vl', vk, vt, Ab, At, nb, cb, nt, ct, rfl, rfl, rfl, m1, m2, ⟨Ar, kr, rfl, hr1, hr2, hr3⟩, ⟨Al, kl, rfl, h1, h2, hL⟩, ⟨Ak, kk, rfl, hk1, hk2, hk3⟩⟩ := id hF
  obtain ⟨va, vy, rfl, ⟨Aa, ka, rfl, ha1, ha2, ha3⟩, ⟨Ay, ky, rfl, hy1, hy2, hy3⟩⟩ := id hx
  clear hr3 hk3 hL hy3
  have HF := Lib.hid (fun c (hc : Le w.cell? c) => hF.mono hc)
  have HA : Hid (∀ c, Le w.cell? c → RInts c (.slice Aa x.args.length ka) x.args) := fun c hc => ⟨Aa, ka, rfl, ha1, ha2, ha3.mono monoInt hc⟩
  clear hF hx ha3
  have HU : Hid (usesOf F x = ⟨(tkU F [] [] x.args).copies, (tkU F [] [] x.args).moves, [], [], [x.dst]⟩) := by
    show usesOf F x = _
    rw [show usesOf F x = takes F ⟨[], [], [], [], [x.dst]⟩ x.args by simp [usesOf, ho, u0], takes_eq]
  all_goals
    rw [ho]
    clear ho
    go_enter Tryz.func37, Tryz.ntmps37
    go_wp2_with fail
    refine (taken_any [] _ F _ _ _ _ _ _ _ _ _ _ _ _ [] [] x.args _ ?hF ?hl ?oc ?om ?ne ?dc ?dm ?hD ?hn).mono ?_
    case hF => exact HF.out _ (le_lookD (by repeat (first | exact Below.refl _ _ | apply Bl.alloc)) (by simp))
    case hl => exact HA.out _ (le_lookD (by repeat (first | exact Below.refl _ _ | apply Bl.alloc)) (by simp))
    case oc => exact World.ownsRow_nil _ _ _ _
    case ne => simp [Value.ownBlock]
    case dc => simp [Value.ownBlock]
    case om => exact World.ownsRow_nil _ _ _ _
    case dm => simp [Value.ownBlock]
    case hD => simp
    case hn => simp; try omega
    rintro e w1 ⟨vc, vm, rfl, oc, om, ne, bc, bm, ch⟩
    obtain ⟨Ac, kc, rfl⟩ := own_shape oc
    obtain ⟨Am, km, rfl⟩ := own_shape om
    have hz := ch.size
    simp only [World.size_alloc] at hz
    have RC := Lib.hid (RInts.of_own [w.heap.size + 2, w.heap.size + 3] oc (fun k hk hm => by
      have := bc k hk
      simp at this hm
      omega))
    have RM := Lib.hid (RInts.of_own [w.heap.size + 2, w.heap.size + 3] om (fun k hk hm => by
      have := bm k hk
      simp at this hm
      omega))
    have bX := Bx.chg (D := []) (w' := w1) (b := w.heap.size + 1) (t := 55) (cs := #[.int .i64 8, .int .i64 x.dst, .int .i64 x.a, .int .i64 x.b, .int .i64 x.n, .slice Aa x.args.length ka, .slice Ay x.types.length ky]) (by repeat (first | (refine Bx.at0 _ _ _ ?_; (simp; done)) | apply Bx.alloc)) ch (by simp)
    have bR := Bx.chg (D := []) (w' := w1) (b := w.heap.size + 1 + 1) (t := 40) (cs := #[.slice none 0 0, .slice none 0 0, .slice none 0 0, .slice none 0 0, .slice none 0 0]) (by repeat (first | (refine Bx.at0 _ _ _ ?_; (simp; done)) | apply Bx.alloc)) ch (by simp)
    have bU := Bx.chg (D := []) (w' := w1) (b := w.heap.size + 1 + 1 + 1) (t := 40) (cs := #[.slice none 0 0, .slice none 0 0, .slice none 0 0, .slice none 0 0, .slice none 0 0]) (by repeat (first | (refine Bx.at0 _ _ _ ?_; (simp; done)) | apply Bx.alloc)) ch (by simp)
    have HB1 := Lib.hid (Bl.chg (w := w) (by repeat (first | apply Bl.alloc | exact Below.refl _ _)) ch (by simp))
    clear ch oc om ne bc bm
    have HZ := Lib.hid hz
    clear hz
    have cU := bU.cell
    have fU := bU.frozen
    go_upto_region 51 with fail
    clear cU fU
    generalize hW2 : World.setCell (World.setCell (World.setCell (World.setCell (World.setCell w1 _ _) _ _) _ _) _ _) _ _ = W2
    have bX2 : Bx W2 (w.heap.size + 1) 55 #[.int .i64 8, .int .i64 x.dst, .int .i64 x.a, .int .i64 x.b, .int .i64 x.n, .slice Aa x.args.length ka, .slice Ay x.types.length ky] := by rw [← hW2]; exact bX.far5 (by simp) _ _ _ _ _
    have bR2 : Bx W2 (w.heap.size + 1 + 1) 40 #[.slice none 0 0, .slice none 0 0, .slice none 0 0, .slice none 0 0, .slice none 0 0] := by rw [← hW2]; exact bR.far5 (by simp) _ _ _ _ _
    have bU2 : Bx W2 (w.heap.size + 1 + 1 + 1) 40 #[.slice Ac (tkU F [] [] x.args).copies.length kc, .slice Am (tkU F [] [] x.args).moves.length km, .slice none 0 0, .slice none 0 0, .slice none 0 0] := by rw [← hW2]; exact bU.set5 _ _ _ _ _
    have CH2 : Hid (Chg [w.heap.size + 2, w.heap.size + 3] w1 W2) := by rw [← hW2]; exact (Chg.refl _ _).put5 (.inl (by simp)) _ _ _ _ _
    clear hW2 bX bR bU
    have cX := bX2.cell
    have cU := bU2.cell
    have fU := bU2.frozen
    have lU := bU2.lt
    have lR := bR2.lt
    go_upto_region 52 with fail
    clear cX cU fU
    have HL2 := Lib.hid (show w.heap.size + 1 + 1 + 1 < W2.heap.size from lU)
    obtain ⟨B4, hB4⟩ : ∃ B4, B4 = W2.heap.size := ⟨_, rfl⟩
    rw [← hB4]
    generalize hW3 : World.alloc (World.setCell W2 _ _) _ = W3
    have bR3 : Bx W3 (w.heap.size + 1 + 1) 40 #[.slice none 0 0, .slice none 0 0, .slice none 0 0, .slice none 0 0, .slice none 0 0] := by rw [← hW3]; exact (bR2.far (by simp) _).alloc _
    have bU3 : Bx W3 (w.heap.size + 1 + 1 + 1) 40 #[.slice Ac (tkU F [] [] x.args).copies.length kc, .slice Am (tkU F [] [] x.args).moves.length km, .slice none 0 0, .slice none 0 0, .slice (some ⟨B4, 0, none⟩) 1 1] := by rw [← hW3]; simpa using (bU2.set 4 _).alloc _
    have b4 : Bx W3 B4 3 #[.int .i64 x.dst] := by rw [← hW3]; exact Bx.at0 _ 3 _ (by simpa [World.setCell] using hB4)
    have CH3 : Hid (Chg [w.heap.size + 2, w.heap.size + 3] w1 W3) := by rw [← hW3]; exact (CH2.out.put (.inl (by simp)) _).allo _
    have RD := Lib.hid (rints_boxD [w.heap.size + 2, w.heap.size + 3] b4 (by simp; omega))
    clear hW3 bX2 bR2 bU2 CH2 lU lR b4 hB4
    have cR := bR3.cell
    have fR := bR3.frozen
    have cU := bU3.cell
    clear bR3 bU3
    go_wp2_with fail
    rw [HU.out]
    refine bodyPost_ret (v := ?v) ?h rfl ?r
    case h =>
      simp [results, Tryz.results37, go_sem, cR, fR, cU] <;> rfl
    case r =>
      refine ⟨⟨_, rfl, _, _, _, _, _, rfl, ?_, ?_, ?_, ?_, ?_⟩, ?_⟩
      · exact RC.out.mono monoInt (Chg.le' (by repeat (first | refine Chg.put ?_ (.inl (by simp)) _ | exact CH3.out)))
      · exact RM.out.mono monoInt (Chg.le' (by repeat (first | refine Chg.put ?_ (.inl (by simp)) _ | exact CH3.out)))
      · exact RSl.nil _ _ _
      · exact RSl.nil _ _ _
      · exact RD.out.mono monoInt (Chg.le' (by repeat (first | refine Chg.put ?_ (.inl (by simp)) _ | exact Chg.refl _ W3)))
      · exact Bl.chg HB1.out (D := [w.heap.size + 2, w.heap.size + 3]) (by repeat (first | refine Chg.put ?_ (.inl (by simp)) _ | exact CH3.out)) (by simp)
set_option maxHeartbeats 4000000 in
set_option maxRecDepth 100000 in
theorem uses_op19 (v vx : Value) (F : Fn) (x : Ins) (w : World) (hF : RFn w.cell? v F) (hx : RIns w.cell? vx x) (hn : x.args.length ≤ 100000) (ho : x.op = 19) :
    Calls Tryz.prog 37 #[v, vx] w (UsPost w (usesOf F x)) := by
  obtain ⟨mo, pa, ar, vb, vr, vl', vk, vt, Ab, At, nb, cb, nt, ct, rfl, rfl, rfl, m1, m2, ⟨Ar, kr, rfl, hr1, hr2, hr3⟩, ⟨Al, kl, rfl, h1, h2, hL⟩, ⟨Ak, kk, rfl, hk1, hk2, hk3⟩⟩ := id hF
  obtain ⟨va, vy, rfl, ⟨Aa, ka, rfl, ha1, ha2, ha3⟩, ⟨Ay, ky, rfl, hy1, hy2, hy3⟩⟩ := id hx
  clear hr3 hk3 hL hy3
  have HF := Lib.hid (fun c (hc : Le w.cell? c) => hF.mono hc)
  have HA : Hid (∀ c, Le w.cell? c → RInts c (.slice Aa x.args.length ka) x.args) := fun c hc => ⟨Aa, ka, rfl, ha1, ha2, ha3.mono monoInt hc⟩
  clear hF hx ha3
  have HU : Hid (usesOf F x = ⟨(tkU F [] [] x.args).copies, (tkU F [] [] x.args).moves, [], [], [x.dst]⟩) := by
    show usesOf F x = _
    rw [show usesOf F x = takes F ⟨[], [], [], [], [x.dst]⟩ x.args by simp [usesOf, ho, u0], takes_eq]
  all_goals
    rw [ho]
    clear ho
    go_enter Tryz.func37, Tryz.ntmps37
    go_wp2_with fail
    refine (taken_any [] _ F _ _ _ _ _ _ _ _ _ _ _ _ [] [] x.args _ ?hF ?hl ?oc ?om ?ne ?dc ?dm ?hD ?hn).mono ?_
    case hF => exact HF.out _ (le_lookD (by repeat (first | exact Below.refl _ _ | apply Bl.alloc)) (by simp))
    case hl => exact HA.out _ (le_lookD (by repeat (first | exact Below.refl _ _ | apply Bl.alloc)) (by simp))
    case oc => exact World.ownsRow_nil _ _ _ _
    case ne => simp [Value.ownBlock]
    case dc => simp [Value.ownBlock]
    case om => exact World.ownsRow_nil _ _ _ _
    case dm => simp [Value.ownBlock]
    case hD => simp
    case hn => simp; try omega
    rintro e w1 ⟨vc, vm, rfl, oc, om, ne, bc, bm, ch⟩
    obtain ⟨Ac, kc, rfl⟩ := own_shape oc
    obtain ⟨Am, km, rfl⟩ := own_shape om
    have hz := ch.size
    simp only [World.size_alloc] at hz
    have RC := Lib.hid (RInts.of_own [w.heap.size + 2, w.heap.size + 3] oc (fun k hk hm => by
      have := bc k hk
      simp at this hm
      omega))
    have RM := Lib.hid (RInts.of_own [w.heap.size + 2, w.heap.size + 3] om (fun k hk hm => by
      have := bm k hk
      simp at this hm
      omega))
    have bX := Bx.chg (D := []) (w' := w1) (b := w.heap.size + 1) (t := 55) (cs := #[.int .i64 19, .int .i64 x.dst, .int .i64 x.a, .int .i64 x.b, .int .i64 x.n, .slice Aa x.args.length ka, .slice Ay x.types.length ky]) (by repeat (first | (refine Bx.at0 _ _ _ ?_; (simp; done)) | apply Bx.alloc)) ch (by simp)
    have bR := Bx.chg (D := []) (w' := w1) (b := w.heap.size + 1 + 1) (t := 40) (cs := #[.slice none 0 0, .slice none 0 0, .slice none 0 0, .slice none 0 0, .slice none 0 0]) (by repeat (first | (refine Bx.at0 _ _ _ ?_; (simp; done)) | apply Bx.alloc)) ch (by simp)
    have bU := Bx.chg (D := []) (w' := w1) (b := w.heap.size + 1 + 1 + 1) (t := 40) (cs := #[.slice none 0 0, .slice none 0 0, .slice none 0 0, .slice none 0 0, .slice none 0 0]) (by repeat (first | (refine Bx.at0 _ _ _ ?_; (simp; done)) | apply Bx.alloc)) ch (by simp)
    have HB1 := Lib.hid (Bl.chg (w := w) (by repeat (first | apply Bl.alloc | exact Below.refl _ _)) ch (by simp))
    clear ch oc om ne bc bm
    have HZ := Lib.hid hz
    clear hz
    have cU := bU.cell
    have fU := bU.frozen
    go_upto_region 51 with fail
    clear cU fU
    generalize hW2 : World.setCell (World.setCell (World.setCell (World.setCell (World.setCell w1 _ _) _ _) _ _) _ _) _ _ = W2
    have bX2 : Bx W2 (w.heap.size + 1) 55 #[.int .i64 19, .int .i64 x.dst, .int .i64 x.a, .int .i64 x.b, .int .i64 x.n, .slice Aa x.args.length ka, .slice Ay x.types.length ky] := by rw [← hW2]; exact bX.far5 (by simp) _ _ _ _ _
    have bR2 : Bx W2 (w.heap.size + 1 + 1) 40 #[.slice none 0 0, .slice none 0 0, .slice none 0 0, .slice none 0 0, .slice none 0 0] := by rw [← hW2]; exact bR.far5 (by simp) _ _ _ _ _
    have bU2 : Bx W2 (w.heap.size + 1 + 1 + 1) 40 #[.slice Ac (tkU F [] [] x.args).copies.length kc, .slice Am (tkU F [] [] x.args).moves.length km, .slice none 0 0, .slice none 0 0, .slice none 0 0] := by rw [← hW2]; exact bU.set5 _ _ _ _ _
    have CH2 : Hid (Chg [w.heap.size + 2, w.heap.size + 3] w1 W2) := by rw [← hW2]; exact (Chg.refl _ _).put5 (.inl (by simp)) _ _ _ _ _
    clear hW2 bX bR bU
    have cX := bX2.cell
    have cU := bU2.cell
    have fU := bU2.frozen
    have lU := bU2.lt
    have lR := bR2.lt
    go_upto_region 52 with fail
    clear cX cU fU
    have HL2 := Lib.hid (show w.heap.size + 1 + 1 + 1 < W2.heap.size from lU)
    obtain ⟨B4, hB4⟩ : ∃ B4, B4 = W2.heap.size := ⟨_, rfl⟩
    rw [← hB4]
    generalize hW3 : World.alloc (World.setCell W2 _ _) _ = W3
    have bR3 : Bx W3 (w.heap.size + 1 + 1) 40 #[.slice none 0 0, .slice none 0 0, .slice none 0 0, .slice none 0 0, .slice none 0 0] := by rw [← hW3]; exact (bR2.far (by simp) _).alloc _
    have bU3 : Bx W3 (w.heap.size + 1 + 1 + 1) 40 #[.slice Ac (tkU F [] [] x.args).copies.length kc, .slice Am (tkU F [] [] x.args).moves.length km, .slice none 0 0, .slice none 0 0, .slice (some ⟨B4, 0, none⟩) 1 1] := by rw [← hW3]; simpa using (bU2.set 4 _).alloc _
    have b4 : Bx W3 B4 3 #[.int .i64 x.dst] := by rw [← hW3]; exact Bx.at0 _ 3 _ (by simpa [World.setCell] using hB4)
    have CH3 : Hid (Chg [w.heap.size + 2, w.heap.size + 3] w1 W3) := by rw [← hW3]; exact (CH2.out.put (.inl (by simp)) _).allo _
    have RD := Lib.hid (rints_boxD [w.heap.size + 2, w.heap.size + 3] b4 (by simp; omega))
    clear hW3 bX2 bR2 bU2 CH2 lU lR b4 hB4
    have cR := bR3.cell
    have fR := bR3.frozen
    have cU := bU3.cell
    clear bR3 bU3
    go_wp2_with fail
    rw [HU.out]
    refine bodyPost_ret (v := ?v) ?h rfl ?r
    case h =>
      simp [results, Tryz.results37, go_sem, cR, fR, cU] <;> rfl
    case r =>
      refine ⟨⟨_, rfl, _, _, _, _, _, rfl, ?_, ?_, ?_, ?_, ?_⟩, ?_⟩
      · exact RC.out.mono monoInt (Chg.le' (by repeat (first | refine Chg.put ?_ (.inl (by simp)) _ | exact CH3.out)))
      · exact RM.out.mono monoInt (Chg.le' (by repeat (first | refine Chg.put ?_ (.inl (by simp)) _ | exact CH3.out)))
      · exact RSl.nil _ _ _
      · exact RSl.nil _ _ _
      · exact RD.out.mono monoInt (Chg.le' (by repeat (first | refine Chg.put ?_ (.inl (by simp)) _ | exact Chg.refl _ W3)))
      · exact Bl.chg HB1.out (D := [w.heap.size + 2, w.heap.size + 3]) (by repeat (first | refine Chg.put ?_ (.inl (by simp)) _ | exact CH3.out)) (by simp)
set_option maxHeartbeats 4000000 in
set_option maxRecDepth 100000 in
theorem uses_op20 (v vx : Value) (F : Fn) (x : Ins) (w : World) (hF : RFn w.cell? v F) (hx : RIns w.cell? vx x) (hn : x.args.length ≤ 100000) (ho : x.op = 20) :
    Calls Tryz.prog 37 #[v, vx] w (UsPost w (usesOf F x)) := by
  obtain ⟨mo, pa, ar, vb, vr, vl', vk, vt, Ab, At, nb, cb, nt, ct, rfl, rfl, rfl, m1, m2, ⟨Ar, kr, rfl, hr1, hr2, hr3⟩, ⟨Al, kl, rfl, h1, h2, hL⟩, ⟨Ak, kk, rfl, hk1, hk2, hk3⟩⟩ := id hF
  obtain ⟨va, vy, rfl, ⟨Aa, ka, rfl, ha1, ha2, ha3⟩, ⟨Ay, ky, rfl, hy1, hy2, hy3⟩⟩ := id hx
  clear hr3 hk3 hL hy3
  have HF := Lib.hid (fun c (hc : Le w.cell? c) => hF.mono hc)
  have HA : Hid (∀ c, Le w.cell? c → RInts c (.slice Aa x.args.length ka) x.args) := fun c hc => ⟨Aa, ka, rfl, ha1, ha2, ha3.mono monoInt hc⟩
  clear hF hx ha3
  have HU : Hid (usesOf F x = ⟨(tkU F [] [] x.args).copies, (tkU F [] [] x.args).moves, [], [], [x.dst]⟩) := by
    show usesOf F x = _
    rw [show usesOf F x = takes F ⟨[], [], [], [], [x.dst]⟩ x.args by simp [usesOf, ho, u0], takes_eq]
  all_goals
    rw [ho]
    clear ho
    go_enter Tryz.func37, Tryz.ntmps37
    go_wp2_with fail
    refine (taken_any [] _ F _ _ _ _ _ _ _ _ _ _ _ _ [] [] x.args _ ?hF ?hl ?oc ?om ?ne ?dc ?dm ?hD ?hn).mono ?_
    case hF => exact HF.out _ (le_lookD (by repeat (first | exact Below.refl _ _ | apply Bl.alloc)) (by simp))
    case hl => exact HA.out _ (le_lookD (by repeat (first | exact Below.refl _ _ | apply Bl.alloc)) (by simp))
    case oc => exact World.ownsRow_nil _ _ _ _
    case ne => simp [Value.ownBlock]
    case dc => simp [Value.ownBlock]
    case om => exact World.ownsRow_nil _ _ _ _
    case dm => simp [Value.ownBlock]
    case hD => simp
    case hn => simp; try omega
    rintro e w1 ⟨vc, vm, rfl, oc, om, ne, bc, bm, ch⟩
    obtain ⟨Ac, kc, rfl⟩ := own_shape oc
    obtain ⟨Am, km, rfl⟩ := own_shape om
    have hz := ch.size
    simp only [World.size_alloc] at hz
    have RC := Lib.hid (RInts.of_own [w.heap.size + 2, w.heap.size + 3] oc (fun k hk hm => by
      have := bc k hk
      simp at this hm
      omega))
    have RM := Lib.hid (RInts.of_own [w.heap.size + 2, w.heap.size + 3] om (fun k hk hm => by
      have := bm k hk
      simp at this hm
      omega))
    have bX := Bx.chg (D := []) (w' := w1) (b := w.heap.size + 1) (t := 55) (cs := #[.int .i64 20, .int .i64 x.dst, .int .i64 x.a, .int .i64 x.b, .int .i64 x.n, .slice Aa x.args.length ka, .slice Ay x.types.length ky]) (by repeat (first | (refine Bx.at0 _ _ _ ?_; (simp; done)) | apply Bx.alloc)) ch (by simp)
    have bR := Bx.chg (D := []) (w' := w1) (b := w.heap.size + 1 + 1) (t := 40) (cs := #[.slice none 0 0, .slice none 0 0, .slice none 0 0, .slice none 0 0, .slice none 0 0]) (by repeat (first | (refine Bx.at0 _ _ _ ?_; (simp; done)) | apply Bx.alloc)) ch (by simp)
    have bU := Bx.chg (D := []) (w' := w1) (b := w.heap.size + 1 + 1 + 1) (t := 40) (cs := #[.slice none 0 0, .slice none 0 0, .slice none 0 0, .slice none 0 0, .slice none 0 0]) (by repeat (first | (refine Bx.at0 _ _ _ ?_; (simp; done)) | apply Bx.alloc)) ch (by simp)
    have HB1 := Lib.hid (Bl.chg (w := w) (by repeat (first | apply Bl.alloc | exact Below.refl _ _)) ch (by simp))
    clear ch oc om ne bc bm
    have HZ := Lib.hid hz
    clear hz
    have cU := bU.cell
    have fU := bU.frozen
    go_upto_region 51 with fail
    clear cU fU
    generalize hW2 : World.setCell (World.setCell (World.setCell (World.setCell (World.setCell w1 _ _) _ _) _ _) _ _) _ _ = W2
    have bX2 : Bx W2 (w.heap.size + 1) 55 #[.int .i64 20, .int .i64 x.dst, .int .i64 x.a, .int .i64 x.b, .int .i64 x.n, .slice Aa x.args.length ka, .slice Ay x.types.length ky] := by rw [← hW2]; exact bX.far5 (by simp) _ _ _ _ _
    have bR2 : Bx W2 (w.heap.size + 1 + 1) 40 #[.slice none 0 0, .slice none 0 0, .slice none 0 0, .slice none 0 0, .slice none 0 0] := by rw [← hW2]; exact bR.far5 (by simp) _ _ _ _ _
    have bU2 : Bx W2 (w.heap.size + 1 + 1 + 1) 40 #[.slice Ac (tkU F [] [] x.args).copies.length kc, .slice Am (tkU F [] [] x.args).moves.length km, .slice none 0 0, .slice none 0 0, .slice none 0 0] := by rw [← hW2]; exact bU.set5 _ _ _ _ _
    have CH2 : Hid (Chg [w.heap.size + 2, w.heap.size + 3] w1 W2) := by rw [← hW2]; exact (Chg.refl _ _).put5 (.inl (by simp)) _ _ _ _ _
    clear hW2 bX bR bU
    have cX := bX2.cell
    have cU := bU2.cell
    have fU := bU2.frozen
    have lU := bU2.lt
    have lR := bR2.lt
    go_upto_region 52 with fail
    clear cX cU fU
    have HL2 := Lib.hid (show w.heap.size + 1 + 1 + 1 < W2.heap.size from lU)
    obtain ⟨B4, hB4⟩ : ∃ B4, B4 = W2.heap.size := ⟨_, rfl⟩
    rw [← hB4]
    generalize hW3 : World.alloc (World.setCell W2 _ _) _ = W3
    have bR3 : Bx W3 (w.heap.size + 1 + 1) 40 #[.slice none 0 0, .slice none 0 0, .slice none 0 0, .slice none 0 0, .slice none 0 0] := by rw [← hW3]; exact (bR2.far (by simp) _).alloc _
    have bU3 : Bx W3 (w.heap.size + 1 + 1 + 1) 40 #[.slice Ac (tkU F [] [] x.args).copies.length kc, .slice Am (tkU F [] [] x.args).moves.length km, .slice none 0 0, .slice none 0 0, .slice (some ⟨B4, 0, none⟩) 1 1] := by rw [← hW3]; simpa using (bU2.set 4 _).alloc _
    have b4 : Bx W3 B4 3 #[.int .i64 x.dst] := by rw [← hW3]; exact Bx.at0 _ 3 _ (by simpa [World.setCell] using hB4)
    have CH3 : Hid (Chg [w.heap.size + 2, w.heap.size + 3] w1 W3) := by rw [← hW3]; exact (CH2.out.put (.inl (by simp)) _).allo _
    have RD := Lib.hid (rints_boxD [w.heap.size + 2, w.heap.size + 3] b4 (by simp; omega))
    clear hW3 bX2 bR2 bU2 CH2 lU lR b4 hB4
    have cR := bR3.cell
    have fR := bR3.frozen
    have cU := bU3.cell
    clear bR3 bU3
    go_wp2_with fail
    rw [HU.out]
    refine bodyPost_ret (v := ?v) ?h rfl ?r
    case h =>
      simp [results, Tryz.results37, go_sem, cR, fR, cU] <;> rfl
    case r =>
      refine ⟨⟨_, rfl, _, _, _, _, _, rfl, ?_, ?_, ?_, ?_, ?_⟩, ?_⟩
      · exact RC.out.mono monoInt (Chg.le' (by repeat (first | refine Chg.put ?_ (.inl (by simp)) _ | exact CH3.out)))
      · exact RM.out.mono monoInt (Chg.le' (by repeat (first | refine Chg.put ?_ (.inl (by simp)) _ | exact CH3.out)))
      · exact RSl.nil _ _ _
      · exact RSl.nil _ _ _
      · exact RD.out.mono monoInt (Chg.le' (by repeat (first | refine Chg.put ?_ (.inl (by simp)) _ | exact Chg.refl _ W3)))
      · exact Bl.chg HB1.out (D := [w.heap.size + 2, w.heap.size + 3]) (by repeat (first | refine Chg.put ?_ (.inl (by simp)) _ | exact CH3.out)) (by simp)
set_option maxHeartbeats 4000000 in
set_option maxRecDepth 100000 in
theorem uses_op23 (v vx : Value) (F : Fn) (x : Ins) (w : World) (hF : RFn w.cell? v F) (hx : RIns w.cell? vx x) (hn : x.args.length ≤ 100000) (ho : x.op = 23) :
    Calls Tryz.prog 37 #[v, vx] w (UsPost w (usesOf F x)) := by
  obtain ⟨mo, pa, ar, vb, vr, vl', vk, vt, Ab, At, nb, cb, nt, ct, rfl, rfl, rfl, m1, m2, ⟨Ar, kr, rfl, hr1, hr2, hr3⟩, ⟨Al, kl, rfl, h1, h2, hL⟩, ⟨Ak, kk, rfl, hk1, hk2, hk3⟩⟩ := id hF
  obtain ⟨va, vy, rfl, ⟨Aa, ka, rfl, ha1, ha2, ha3⟩, ⟨Ay, ky, rfl, hy1, hy2, hy3⟩⟩ := id hx
  clear hr3 hk3 hL hy3
  have HF := Lib.hid (fun c (hc : Le w.cell? c) => hF.mono hc)
  have HA : Hid (∀ c, Le w.cell? c → RInts c (.slice Aa x.args.length ka) x.args) := fun c hc => ⟨Aa, ka, rfl, ha1, ha2, ha3.mono monoInt hc⟩
  clear hF hx ha3
  have HU : Hid (usesOf F x = ⟨(tkU F [x.a] [] [x.b]).copies, (tkU F [x.a] [] [x.b]).moves, [], [], [x.dst]⟩) := by
    show usesOf F x = _
    rw [show usesOf F x = takes F ⟨[x.a], [], [], [], [x.dst]⟩ [x.b] by simp [usesOf, ho, u0], takes_eq]
  all_goals
    rw [ho]
    clear ho
    go_enter Tryz.func37, Tryz.ntmps37
    go_wp2_with fail
    refine (taken_any [w.heap.size + 4] _ F _ _ _ _ _ _ _ _ _ _ _ _ [x.a] [] [x.b] _ ?hF ?hl ?oc ?om ?ne ?dc ?dm ?hD ?hn).mono ?_
    case hF => exact HF.out _ (le_lookD (by repeat (first | exact Below.refl _ _ | apply Bl.alloc)) (by simp))
    case hl => exact rints_boxD _ (Bx.at0 _ _ _ (by simp)) (by simp)
    case oc => exact own_box1 (Bx.alloc (Bx.at0 _ _ _ (by simp)) _)
    case ne => simp [Value.ownBlock]
    case dc =>
      intro k hk
      simp [Value.ownBlock] at hk ⊢
      omega
    case om => exact World.ownsRow_nil _ _ _ _
    case dm => simp [Value.ownBlock]
    case hD => simp
    case hn => simp; try omega
    rintro e w1 ⟨vc, vm, rfl, oc, om, ne, bc, bm, ch⟩
    obtain ⟨Ac, kc, rfl⟩ := own_shape oc
    obtain ⟨Am, km, rfl⟩ := own_shape om
    have hz := ch.size
    simp only [World.size_alloc] at hz
    have RC := Lib.hid (RInts.of_own [w.heap.size + 2, w.heap.size + 3] oc (fun k hk hm => by
      have := bc k hk
      simp at this hm
      omega))
    have RM := Lib.hid (RInts.of_own [w.heap.size + 2, w.heap.size + 3] om (fun k hk hm => by
      have := bm k hk
      simp at this hm
      omega))
    have bX := Bx.chg (D := [w.heap.size + 4]) (w' := w1) (b := w.heap.size + 1) (t := 55) (cs := #[.int .i64 23, .int .i64 x.dst, .int .i64 x.a, .int .i64 x.b, .int .i64 x.n, .slice Aa x.args.length ka, .slice Ay x.types.length ky]) (by repeat (first | (refine Bx.at0 _ _ _ ?_; (simp; done)) | apply Bx.alloc)) ch (by simp)
    have bR := Bx.chg (D := [w.heap.size + 4]) (w' := w1) (b := w.heap.size + 1 + 1) (t := 40) (cs := #[.slice none 0 0, .slice none 0 0, .slice none 0 0, .slice none 0 0, .slice none 0 0]) (by repeat (first | (refine Bx.at0 _ _ _ ?_; (simp; done)) | apply Bx.alloc)) ch (by simp)
    have bU := Bx.chg (D := [w.heap.size + 4]) (w' := w1) (b := w.heap.size + 1 + 1 + 1) (t := 40) (cs := #[.slice none 0 0, .slice none 0 0, .slice none 0 0, .slice none 0 0, .slice none 0 0]) (by repeat (first | (refine Bx.at0 _ _ _ ?_; (simp; done)) | apply Bx.alloc)) ch (by simp)
    have HB1 := Lib.hid (Bl.chg (w := w) (by repeat (first | apply Bl.alloc | exact Below.refl _ _)) ch (by simp))
    clear ch oc om ne bc bm
    have HZ := Lib.hid hz
    clear hz
    have cU := bU.cell
    have fU := bU.frozen
    go_upto_region 51 with fail
    clear cU fU
    generalize hW2 : World.setCell (World.setCell (World.setCell (World.setCell (World.setCell w1 _ _) _ _) _ _) _ _) _ _ = W2
    have bX2 : Bx W2 (w.heap.size + 1) 55 #[.int .i64 23, .int .i64 x.dst, .int .i64 x.a, .int .i64 x.b, .int .i64 x.n, .slice Aa x.args.length ka, .slice Ay x.types.length ky] := by rw [← hW2]; exact bX.far5 (by simp) _ _ _ _ _
    have bR2 : Bx W2 (w.heap.size + 1 + 1) 40 #[.slice none 0 0, .slice none 0 0, .slice none 0 0, .slice none 0 0, .slice none 0 0] := by rw [← hW2]; exact bR.far5 (by simp) _ _ _ _ _
    have bU2 : Bx W2 (w.heap.size + 1 + 1 + 1) 40 #[.slice Ac (tkU F [x.a] [] [x.b]).copies.length kc, .slice Am (tkU F [x.a] [] [x.b]).moves.length km, .slice none 0 0, .slice none 0 0, .slice none 0 0] := by rw [← hW2]; exact bU.set5 _ _ _ _ _
    have CH2 : Hid (Chg [w.heap.size + 2, w.heap.size + 3] w1 W2) := by rw [← hW2]; exact (Chg.refl _ _).put5 (.inl (by simp)) _ _ _ _ _
    clear hW2 bX bR bU
    have cX := bX2.cell
    have cU := bU2.cell
    have fU := bU2.frozen
    have lU := bU2.lt
    have lR := bR2.lt
    go_upto_region 52 with fail
    clear cX cU fU
    have HL2 := Lib.hid (show w.heap.size + 1 + 1 + 1 < W2.heap.size from lU)
    obtain ⟨B4, hB4⟩ : ∃ B4, B4 = W2.heap.size := ⟨_, rfl⟩
    rw [← hB4]
    generalize hW3 : World.alloc (World.setCell W2 _ _) _ = W3
    have bR3 : Bx W3 (w.heap.size + 1 + 1) 40 #[.slice none 0 0, .slice none 0 0, .slice none 0 0, .slice none 0 0, .slice none 0 0] := by rw [← hW3]; exact (bR2.far (by simp) _).alloc _
    have bU3 : Bx W3 (w.heap.size + 1 + 1 + 1) 40 #[.slice Ac (tkU F [x.a] [] [x.b]).copies.length kc, .slice Am (tkU F [x.a] [] [x.b]).moves.length km, .slice none 0 0, .slice none 0 0, .slice (some ⟨B4, 0, none⟩) 1 1] := by rw [← hW3]; simpa using (bU2.set 4 _).alloc _
    have b4 : Bx W3 B4 3 #[.int .i64 x.dst] := by rw [← hW3]; exact Bx.at0 _ 3 _ (by simpa [World.setCell] using hB4)
    have CH3 : Hid (Chg [w.heap.size + 2, w.heap.size + 3] w1 W3) := by rw [← hW3]; exact (CH2.out.put (.inl (by simp)) _).allo _
    have RD := Lib.hid (rints_boxD [w.heap.size + 2, w.heap.size + 3] b4 (by simp; omega))
    clear hW3 bX2 bR2 bU2 CH2 lU lR b4 hB4
    have cR := bR3.cell
    have fR := bR3.frozen
    have cU := bU3.cell
    clear bR3 bU3
    go_wp2_with fail
    rw [HU.out]
    refine bodyPost_ret (v := ?v) ?h rfl ?r
    case h =>
      simp [results, Tryz.results37, go_sem, cR, fR, cU] <;> rfl
    case r =>
      refine ⟨⟨_, rfl, _, _, _, _, _, rfl, ?_, ?_, ?_, ?_, ?_⟩, ?_⟩
      · exact RC.out.mono monoInt (Chg.le' (by repeat (first | refine Chg.put ?_ (.inl (by simp)) _ | exact CH3.out)))
      · exact RM.out.mono monoInt (Chg.le' (by repeat (first | refine Chg.put ?_ (.inl (by simp)) _ | exact CH3.out)))
      · exact RSl.nil _ _ _
      · exact RSl.nil _ _ _
      · exact RD.out.mono monoInt (Chg.le' (by repeat (first | refine Chg.put ?_ (.inl (by simp)) _ | exact Chg.refl _ W3)))
      · exact Bl.chg HB1.out (D := [w.heap.size + 2, w.heap.size + 3]) (by repeat (first | refine Chg.put ?_ (.inl (by simp)) _ | exact CH3.out)) (by simp)
set_option maxHeartbeats 4000000 in
set_option maxRecDepth 100000 in
theorem uses_op27 (v vx : Value) (F : Fn) (x : Ins) (w : World) (hF : RFn w.cell? v F) (hx : RIns w.cell? vx x) (hn : x.args.length ≤ 100000) (ho : x.op = 27) :
    Calls Tryz.prog 37 #[v, vx] w (UsPost w (usesOf F x)) := by
  obtain ⟨mo, pa, ar, vb, vr, vl', vk, vt, Ab, At, nb, cb, nt, ct, rfl, rfl, rfl, m1, m2, ⟨Ar, kr, rfl, hr1, hr2, hr3⟩, ⟨Al, kl, rfl, h1, h2, hL⟩, ⟨Ak, kk, rfl, hk1, hk2, hk3⟩⟩ := id hF
  obtain ⟨va, vy, rfl, ⟨Aa, ka, rfl, ha1, ha2, ha3⟩, ⟨Ay, ky, rfl, hy1, hy2, hy3⟩⟩ := id hx
  clear hr3 hk3 hL hy3
  have HF := Lib.hid (fun c (hc : Le w.cell? c) => hF.mono hc)
  have HA : Hid (∀ c, Le w.cell? c → RInts c (.slice Aa x.args.length ka) x.args) := fun c hc => ⟨Aa, ka, rfl, ha1, ha2, ha3.mono monoInt hc⟩
  clear hF hx ha3
  have HU : Hid (usesOf F x = ⟨(tkU F [] [] x.args).copies, (tkU F [] [] x.args).moves, [], [], []⟩) := by
    show usesOf F x = _
    rw [show usesOf F x = takes F ⟨[], [], [], [], []⟩ x.args by simp [usesOf, ho, u0], takes_eq]
  all_goals
    rw [ho]
    clear ho
    go_enter Tryz.func37, Tryz.ntmps37
    go_wp2_with fail
    refine (taken_any [] _ F _ _ _ _ _ _ _ _ _ _ _ _ [] [] x.args _ ?hF ?hl ?oc ?om ?ne ?dc ?dm ?hD ?hn).mono ?_
    case hF => exact HF.out _ (le_lookD (by repeat (first | exact Below.refl _ _ | apply Bl.alloc)) (by simp))
    case hl => exact HA.out _ (le_lookD (by repeat (first | exact Below.refl _ _ | apply Bl.alloc)) (by simp))
    case oc => exact World.ownsRow_nil _ _ _ _
    case ne => simp [Value.ownBlock]
    case dc => simp [Value.ownBlock]
    case om => exact World.ownsRow_nil _ _ _ _
    case dm => simp [Value.ownBlock]
    case hD => simp
    case hn => simp; try omega
    rintro e w1 ⟨vc, vm, rfl, oc, om, ne, bc, bm, ch⟩
    obtain ⟨Ac, kc, rfl⟩ := own_shape oc
    obtain ⟨Am, km, rfl⟩ := own_shape om
    have hz := ch.size
    simp only [World.size_alloc] at hz
    have RC := Lib.hid (RInts.of_own [w.heap.size + 2, w.heap.size + 3] oc (fun k hk hm => by
      have := bc k hk
      simp at this hm
      omega))
    have RM := Lib.hid (RInts.of_own [w.heap.size + 2, w.heap.size + 3] om (fun k hk hm => by
      have := bm k hk
      simp at this hm
      omega))
    have bX := Bx.chg (D := []) (w' := w1) (b := w.heap.size + 1) (t := 55) (cs := #[.int .i64 27, .int .i64 x.dst, .int .i64 x.a, .int .i64 x.b, .int .i64 x.n, .slice Aa x.args.length ka, .slice Ay x.types.length ky]) (by repeat (first | (refine Bx.at0 _ _ _ ?_; (simp; done)) | apply Bx.alloc)) ch (by simp)
    have bR := Bx.chg (D := []) (w' := w1) (b := w.heap.size + 1 + 1) (t := 40) (cs := #[.slice none 0 0, .slice none 0 0, .slice none 0 0, .slice none 0 0, .slice none 0 0]) (by repeat (first | (refine Bx.at0 _ _ _ ?_; (simp; done)) | apply Bx.alloc)) ch (by simp)
    have bU := Bx.chg (D := []) (w' := w1) (b := w.heap.size + 1 + 1 + 1) (t := 40) (cs := #[.slice none 0 0, .slice none 0 0, .slice none 0 0, .slice none 0 0, .slice none 0 0]) (by repeat (first | (refine Bx.at0 _ _ _ ?_; (simp; done)) | apply Bx.alloc)) ch (by simp)
    have HB1 := Lib.hid (Bl.chg (w := w) (by repeat (first | apply Bl.alloc | exact Below.refl _ _)) ch (by simp))
    clear ch oc om ne bc bm
    have HZ := Lib.hid hz
    clear hz
    have cX := bX.cell
    have cR := bR.cell
    have fR := bR.frozen
    have cU := bU.cell
    have fU := bU.frozen
    have lX := bX.lt
    have lR := bR.lt
    have lU := bU.lt
    clear bX bR bU
    go_wp2_with fail
    rw [HU.out]
    refine bodyPost_ret (v := ?v) ?h rfl ?r
    case h =>
      simp [results, Tryz.results37, go_sem, cR, fR, cU] <;> rfl
    case r =>
      refine ⟨⟨_, rfl, _, _, _, _, _, rfl, ?_, ?_, ?_, ?_, ?_⟩, ?_⟩
      · exact RC.out.mono monoInt (Chg.le' (by repeat (first | refine Chg.put ?_ (.inl (by simp)) _ | exact Chg.refl _ w1)))
      · exact RM.out.mono monoInt (Chg.le' (by repeat (first | refine Chg.put ?_ (.inl (by simp)) _ | exact Chg.refl _ w1)))
      · exact RSl.nil _ _ _
      · exact RSl.nil _ _ _
      · exact RSl.nil _ _ _
      · exact Bl.chg HB1.out (D := [w.heap.size + 2, w.heap.size + 3]) (by repeat (first | refine Chg.put ?_ (.inl (by simp)) _ | exact Chg.refl _ w1)) (by simp)
set_option maxHeartbeats 4000000 in
set_option maxRecDepth 100000 in
theorem uses_op17 (v vx : Value) (F : Fn) (x : Ins) (w : World) (hF : RFn w.cell? v F) (hx : RIns w.cell? vx x) (hn : x.args.length ≤ 100000) (ho : x.op = 17) :
    Calls Tryz.prog 37 #[v, vx] w (UsPost w (usesOf F x)) := by
  obtain ⟨mo, pa, ar, vb, vr, vl', vk, vt, Ab, At, nb, cb, nt, ct, rfl, rfl, rfl, m1, m2, ⟨Ar, kr, rfl, hr1, hr2, hr3⟩, ⟨Al, kl, rfl, h1, h2, hL⟩, ⟨Ak, kk, rfl, hk1, hk2, hk3⟩⟩ := id hF
  obtain ⟨va, vy, rfl, ⟨Aa, ka, rfl, ha1, ha2, ha3⟩, ⟨Ay, ky, rfl, hy1, hy2, hy3⟩⟩ := id hx
  clear hr3 hk3 hL hy3
  have HF := Lib.hid (fun c (hc : Le w.cell? c) => hF.mono hc)
  have HA : Hid (∀ c, Le w.cell? c → RInts c (.slice Aa x.args.length ka) x.args) := fun c hc => ⟨Aa, ka, rfl, ha1, ha2, ha3.mono monoInt hc⟩
  clear hF hx ha3
  have HU : Hid (usesOf F x = ⟨(tkU F [] [] [x.b]).copies, (tkU F [] [] [x.b]).moves, [], [x.a], []⟩) := by
    show usesOf F x = _
    rw [show usesOf F x = takes F ⟨[], [], [], [x.a], []⟩ [x.b] by simp [usesOf, ho, u0], takes_eq]
  all_goals
    rw [ho]
    clear ho
    go_enter Tryz.func37, Tryz.ntmps37
    go_wp2_with fail
    refine (taken_any [] _ F _ _ _ _ _ _ _ _ _ _ _ _ [] [] [x.b] _ ?hF ?hl ?oc ?om ?ne ?dc ?dm ?hD ?hn).mono ?_
    case hF => exact HF.out _ (le_lookD (by repeat (first | exact Below.refl _ _ | apply Bl.alloc)) (by simp))
    case hl => exact rints_boxD _ (Bx.at0 _ _ _ (by simp)) (by simp)
    case oc => exact World.ownsRow_nil _ _ _ _
    case ne => simp [Value.ownBlock]
    case dc => simp [Value.ownBlock]
    case om => exact World.ownsRow_nil _ _ _ _
    case dm => simp [Value.ownBlock]
    case hD => simp
    case hn => simp; try omega
    rintro e w1 ⟨vc, vm, rfl, oc, om, ne, bc, bm, ch⟩
    obtain ⟨Ac, kc, rfl⟩ := own_shape oc
    obtain ⟨Am, km, rfl⟩ := own_shape om
    have hz := ch.size
    simp only [World.size_alloc] at hz
    have RC := Lib.hid (RInts.of_own [w.heap.size + 2, w.heap.size + 3] oc (fun k hk hm => by
      have := bc k hk
      simp at this hm
      omega))
    have RM := Lib.hid (RInts.of_own [w.heap.size + 2, w.heap.size + 3] om (fun k hk hm => by
      have := bm k hk
      simp at this hm
      omega))
    have bX := Bx.chg (D := []) (w' := w1) (b := w.heap.size + 1) (t := 55) (cs := #[.int .i64 17, .int .i64 x.dst, .int .i64 x.a, .int .i64 x.b, .int .i64 x.n, .slice Aa x.args.length ka, .slice Ay x.types.length ky]) (by repeat (first | (refine Bx.at0 _ _ _ ?_; (simp; done)) | apply Bx.alloc)) ch (by simp)
    have bR := Bx.chg (D := []) (w' := w1) (b := w.heap.size + 1 + 1) (t := 40) (cs := #[.slice none 0 0, .slice none 0 0, .slice none 0 0, .slice none 0 0, .slice none 0 0]) (by repeat (first | (refine Bx.at0 _ _ _ ?_; (simp; done)) | apply Bx.alloc)) ch (by simp)
    have bU := Bx.chg (D := []) (w' := w1) (b := w.heap.size + 1 + 1 + 1) (t := 40) (cs := #[.slice none 0 0, .slice none 0 0, .slice none 0 0, .slice none 0 0, .slice none 0 0]) (by repeat (first | (refine Bx.at0 _ _ _ ?_; (simp; done)) | apply Bx.alloc)) ch (by simp)
    have HB1 := Lib.hid (Bl.chg (w := w) (by repeat (first | apply Bl.alloc | exact Below.refl _ _)) ch (by simp))
    have bL := Bx.chg (D := []) (w' := w1) (b := w.heap.size + 1 + 1 + 1 + 1) (t := 3) (cs := #[.int .i64 x.a]) (by repeat (first | (refine Bx.at0 _ _ _ ?_; (simp; done)) | apply Bx.alloc)) ch (by simp)
    have RL := Lib.hid (rints_boxD [w.heap.size + 2, w.heap.size + 3] bL (by simp; try omega))
    clear bL
    clear ch oc om ne bc bm
    have HZ := Lib.hid hz
    clear hz
    have cX := bX.cell
    have cR := bR.cell
    have fR := bR.frozen
    have cU := bU.cell
    have fU := bU.frozen
    have lX := bX.lt
    have lR := bR.lt
    have lU := bU.lt
    clear bX bR bU
    go_wp2_with fail
    rw [HU.out]
    refine bodyPost_ret (v := ?v) ?h rfl ?r
    case h =>
      simp [results, Tryz.results37, go_sem, cR, fR, cU] <;> rfl
    case r =>
      refine ⟨⟨_, rfl, _, _, _, _, _, rfl, ?_, ?_, ?_, ?_, ?_⟩, ?_⟩
      · exact RC.out.mono monoInt (Chg.le' (by repeat (first | refine Chg.put ?_ (.inl (by simp)) _ | exact Chg.refl _ w1)))
      · exact RM.out.mono monoInt (Chg.le' (by repeat (first | refine Chg.put ?_ (.inl (by simp)) _ | exact Chg.refl _ w1)))
      · exact RSl.nil _ _ _
      · exact RL.out.mono monoInt (Chg.le' (by repeat (first | refine Chg.put ?_ (.inl (by simp)) _ | exact Chg.refl _ w1)))
      · exact RSl.nil _ _ _
      · exact Bl.chg HB1.out (D := [w.heap.size + 2, w.heap.size + 3]) (by repeat (first | refine Chg.put ?_ (.inl (by simp)) _ | exact Chg.refl _ w1)) (by simp)
set_option maxHeartbeats 4000000 in
set_option maxRecDepth 100000 in
theorem uses_op25 (v vx : Value) (F : Fn) (x : Ins) (w : World) (hF : RFn w.cell? v F) (hx : RIns w.cell? vx x) (hn : x.args.length ≤ 100000) (ho : x.op = 25) :
    Calls Tryz.prog 37 #[v, vx] w (UsPost w (usesOf F x)) := by
  obtain ⟨mo, pa, ar, vb, vr, vl', vk, vt, Ab, At, nb, cb, nt, ct, rfl, rfl, rfl, m1, m2, ⟨Ar, kr, rfl, hr1, hr2, hr3⟩, ⟨Al, kl, rfl, h1, h2, hL⟩, ⟨Ak, kk, rfl, hk1, hk2, hk3⟩⟩ := id hF
  obtain ⟨va, vy, rfl, ⟨Aa, ka, rfl, ha1, ha2, ha3⟩, ⟨Ay, ky, rfl, hy1, hy2, hy3⟩⟩ := id hx
  clear hr3 hk3 hL hy3
  have HF := Lib.hid (fun c (hc : Le w.cell? c) => hF.mono hc)
  have HA : Hid (∀ c, Le w.cell? c → RInts c (.slice Aa x.args.length ka) x.args) := fun c hc => ⟨Aa, ka, rfl, ha1, ha2, ha3.mono monoInt hc⟩
  clear hF hx ha3
  have HU : Hid (usesOf F x = ⟨(tkU F [x.a] [] [x.b]).copies, (tkU F [x.a] [] [x.b]).moves, [], [], []⟩) := by
    show usesOf F x = _
    rw [show usesOf F x = takes F ⟨[x.a], [], [], [], []⟩ [x.b] by simp [usesOf, ho, u0], takes_eq]
  all_goals
    rw [ho]
    clear ho
    go_enter Tryz.func37, Tryz.ntmps37
    go_wp2_with fail
    refine (taken_any [w.heap.size + 4] _ F _ _ _ _ _ _ _ _ _ _ _ _ [x.a] [] [x.b] _ ?hF ?hl ?oc ?om ?ne ?dc ?dm ?hD ?hn).mono ?_
    case hF => exact HF.out _ (le_lookD (by repeat (first | exact Below.refl _ _ | apply Bl.alloc)) (by simp))
    case hl => exact rints_boxD _ (Bx.at0 _ _ _ (by simp)) (by simp)
    case oc => exact own_box1 (Bx.alloc (Bx.at0 _ _ _ (by simp)) _)
    case ne => simp [Value.ownBlock]
    case dc =>
      intro k hk
      simp [Value.ownBlock] at hk ⊢
      omega
    case om => exact World.ownsRow_nil _ _ _ _
    case dm => simp [Value.ownBlock]
    case hD => simp
    case hn => simp; try omega
    rintro e w1 ⟨vc, vm, rfl, oc, om, ne, bc, bm, ch⟩
    obtain ⟨Ac, kc, rfl⟩ := own_shape oc
    obtain ⟨Am, km, rfl⟩ := own_shape om
    have hz := ch.size
    simp only [World.size_alloc] at hz
    have RC := Lib.hid (RInts.of_own [w.heap.size + 2, w.heap.size + 3] oc (fun k hk hm => by
      have := bc k hk
      simp at this hm
      omega))
    have RM := Lib.hid (RInts.of_own [w.heap.size + 2, w.heap.size + 3] om (fun k hk hm => by
      have := bm k hk
      simp at this hm
      omega))
    have bX := Bx.chg (D := [w.heap.size + 4]) (w' := w1) (b := w.heap.size + 1) (t := 55) (cs := #[.int .i64 25, .int .i64 x.dst, .int .i64 x.a, .int .i64 x.b, .int .i64 x.n, .slice Aa x.args.length ka, .slice Ay x.types.length ky]) (by repeat (first | (refine Bx.at0 _ _ _ ?_; (simp; done)) | apply Bx.alloc)) ch (by simp)
    have bR := Bx.chg (D := [w.heap.size + 4]) (w' := w1) (b := w.heap.size + 1 + 1) (t := 40) (cs := #[.slice none 0 0, .slice none 0 0, .slice none 0 0, .slice none 0 0, .slice none 0 0]) (by repeat (first | (refine Bx.at0 _ _ _ ?_; (simp; done)) | apply Bx.alloc)) ch (by simp)
    have bU := Bx.chg (D := [w.heap.size + 4]) (w' := w1) (b := w.heap.size + 1 + 1 + 1) (t := 40) (cs := #[.slice none 0 0, .slice none 0 0, .slice none 0 0, .slice none 0 0, .slice none 0 0]) (by repeat (first | (refine Bx.at0 _ _ _ ?_; (simp; done)) | apply Bx.alloc)) ch (by simp)
    have HB1 := Lib.hid (Bl.chg (w := w) (by repeat (first | apply Bl.alloc | exact Below.refl _ _)) ch (by simp))
    clear ch oc om ne bc bm
    have HZ := Lib.hid hz
    clear hz
    have cX := bX.cell
    have cR := bR.cell
    have fR := bR.frozen
    have cU := bU.cell
    have fU := bU.frozen
    have lX := bX.lt
    have lR := bR.lt
    have lU := bU.lt
    clear bX bR bU
    go_wp2_with fail
    rw [HU.out]
    refine bodyPost_ret (v := ?v) ?h rfl ?r
    case h =>
      simp [results, Tryz.results37, go_sem, cR, fR, cU] <;> rfl
    case r =>
      refine ⟨⟨_, rfl, _, _, _, _, _, rfl, ?_, ?_, ?_, ?_, ?_⟩, ?_⟩
      · exact RC.out.mono monoInt (Chg.le' (by repeat (first | refine Chg.put ?_ (.inl (by simp)) _ | exact Chg.refl _ w1)))
      · exact RM.out.mono monoInt (Chg.le' (by repeat (first | refine Chg.put ?_ (.inl (by simp)) _ | exact Chg.refl _ w1)))
      · exact RSl.nil _ _ _
      · exact RSl.nil _ _ _
      · exact RSl.nil _ _ _
      · exact Bl.chg HB1.out (D := [w.heap.size + 2, w.heap.size + 3]) (by repeat (first | refine Chg.put ?_ (.inl (by simp)) _ | exact Chg.refl _ w1)) (by simp)
end Go.Proofs.YtdkjkgokllmkmaaGreatDoor.Lv
