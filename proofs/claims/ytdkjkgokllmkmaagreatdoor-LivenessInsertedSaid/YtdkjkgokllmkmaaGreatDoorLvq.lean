/- Walks: graph's Uses and Ends. -/
import Derived.Test.YtdkjkgokllmkmaaGreatDoorLvp
namespace Go.Proofs.YtdkjkgokllmkmaaGreatDoor.Lv
open Go.RowKit
set_option linter.unusedVariables false
set_option linter.unusedSimpArgs false
theorem enter_of {f : FuncId} {fn : Func} {c : Code} (hf : Tryz.prog.funcs[f]? = some fn) (hname : (fn.name == "runtime.NumGoroutine") = false) (hb : fn.body = some c) (args : Array Value) (w : World) :
    (callFunc f args).run Tryz.prog w = .ok (.enter f args) w := by
  have h1 : fn.name ≠ "runtime.NumGoroutine" := by simpa using hname
  simp [callFunc, hf, h1, hb]
set_option maxHeartbeats 4000000 in
set_option maxRecDepth 100000 in
theorem guses_none (v vx : Value) (F : Fn) (x : Ins) (w : World) (hF : RFn w.cell? v F) (hx : RIns w.cell? vx x) (hr : ∀ w, Calls Tryz.prog 63 #[.int .i64 x.op] w (RPost w false .nilFunc)) :
    Calls Tryz.prog 54 #[v, vx] w (UsPost w u0) := by
  obtain ⟨mo, pa, ar, vb, vr, vl', vk, vt, Ab, At, nb, cb, nt, ct, rfl, rfl, rfl, m1, m2, ⟨Ar, kr, rfl, hr1, hr2, hr3⟩, ⟨Al, kl, rfl, h1, h2, hL⟩, ⟨Ak, kk, rfl, hk1, hk2, hk3⟩⟩ := id hF
  obtain ⟨va, vy, rfl, ⟨Aa, ka, rfl, ha1, ha2, ha3⟩, ⟨Ay, ky, rfl, hy1, hy2, hy3⟩⟩ := id hx
  clear hr3 hk3 hL hy3 ha3
  have HR := Lib.hid hr
  clear hF hx hr
  go_enter Tryz.func54, Tryz.ntmps54
  go_wp2_with fail
  refine (HR.out _).mono ?_
  rintro e w1 ⟨⟨b0, b1, b2, b3, v4, rfl, h4⟩, hb1⟩
  obtain rfl : v4 = .nilFunc := h4
  have bR := Bx.below (w' := w1) (b := w.heap.size + 1 + 1) (t := 40) (cs := #[.slice none 0 0, .slice none 0 0, .slice none 0 0, .slice none 0 0, .slice none 0 0]) (by repeat (first | (refine Bx.at0 _ _ _ ?_; (simp; done)) | apply Bx.alloc)) hb1
  have HB1 := Lib.hid (Bl.call (w := w) (by repeat (first | apply Bl.alloc | exact Below.refl _ _)) hb1)
  clear hb1
  have lR := bR.lt
  have cR := bR.cell
  have fR := bR.frozen
  go_wp2_with fail
  generalize hW : World.alloc (World.setCell (World.setCell (World.setCell (World.setCell (World.setCell w1 _ _) _ _) _ _) _ _) _ _) _ = W
  have bR2 : Bx W (w.heap.size + 1 + 1) 40 #[.slice none 0 0, .slice none 0 0, .slice none 0 0, .slice none 0 0, .slice none 0 0] := by rw [← hW]; exact (bR.set5 _ _ _ _ _).alloc _
  have HB2 : Hid (Below w.heap.size w W) := by rw [← hW]; exact Bl.alloc (Bl.chg HB1.out (D := [w.heap.size + 2]) ((Chg.refl _ _).put5 (.inl (by simp)) _ _ _ _ _) (by simp)) _
  clear hW bR cR fR lR
  have cR := bR2.cell
  have fR := bR2.frozen
  refine bodyPost_ret (v := ?v0) ?h0 rfl ?r0
  case h0 => simp [results, Tryz.results54, go_sem, cR, fR] <;> rfl
  case r0 => exact ⟨⟨_, rfl, _, _, _, _, _, rfl, RSl.nil _ _ _, RSl.nil _ _ _, RSl.nil _ _ _, RSl.nil _ _ _, RSl.nil _ _ _⟩, HB2.out⟩

theorem guses_any (v vx : Value) (F : Fn) (x : Ins) (w : World) (hF : RFn w.cell? v F) (hx : RIns w.cell? vx x) (hn : x.args.length ≤ 100000) :
    Calls Tryz.prog 54 #[v, vx] w (UsPost w (usesOf F x)) := by
  by_cases ho : 1 ≤ x.op ∧ x.op ≤ 29
  · have hc : x.op = 1 ∨ x.op = 2 ∨ x.op = 3 ∨ x.op = 4 ∨ x.op = 5 ∨ x.op = 6 ∨ x.op = 7 ∨ x.op = 8 ∨ x.op = 9 ∨ x.op = 10 ∨ x.op = 11 ∨ x.op = 12 ∨ x.op = 13 ∨ x.op = 14 ∨ x.op = 15 ∨ x.op = 16 ∨ x.op = 17 ∨ x.op = 18 ∨ x.op = 19 ∨ x.op = 20 ∨ x.op = 21 ∨ x.op = 22 ∨ x.op = 23 ∨ x.op = 24 ∨ x.op = 25 ∨ x.op = 26 ∨ x.op = 27 ∨ x.op = 28 ∨ x.op = 29 := by omega
    clear ho
    rcases hc with ho | ho | ho | ho | ho | ho | ho | ho | ho | ho | ho | ho | ho | ho | ho | ho | ho | ho | ho | ho | ho | ho | ho | ho | ho | ho | ho | ho | ho
    · rw [show usesOf F x = ⟨[], [], [], [], [x.dst]⟩ by simp [usesOf, ho, u0]]
      exact guses_some 96 _ v vx F x w hF hx (by rw [ho]; exact rule1) (enter_of Tryz.func96 (by kernel_rfl) rfl) (fun v vx w hF hx => gu96_any v vx F x w hF hx hn)
    · rw [show usesOf F x = ⟨[x.a, x.b], [], [], [], [x.dst]⟩ by simp [usesOf, ho, u0]]
      exact guses_some 98 _ v vx F x w hF hx (by rw [ho]; exact rule2) (enter_of Tryz.func98 (by kernel_rfl) rfl) (fun v vx w hF hx => gu98_any v vx F x w hF hx hn)
    · rw [show usesOf F x = ⟨[x.a, x.b], [], [], [], [x.dst]⟩ by simp [usesOf, ho, u0]]
      exact guses_some 98 _ v vx F x w hF hx (by rw [ho]; exact rule3) (enter_of Tryz.func98 (by kernel_rfl) rfl) (fun v vx w hF hx => gu98_any v vx F x w hF hx hn)
    · rw [show usesOf F x = ⟨[x.a, x.b], [], [], [], [x.dst]⟩ by simp [usesOf, ho, u0]]
      exact guses_some 98 _ v vx F x w hF hx (by rw [ho]; exact rule4) (enter_of Tryz.func98 (by kernel_rfl) rfl) (fun v vx w hF hx => gu98_any v vx F x w hF hx hn)
    · rw [show usesOf F x = ⟨[x.a, x.b], [], [], [], [x.dst]⟩ by simp [usesOf, ho, u0]]
      exact guses_some 98 _ v vx F x w hF hx (by rw [ho]; exact rule5) (enter_of Tryz.func98 (by kernel_rfl) rfl) (fun v vx w hF hx => gu98_any v vx F x w hF hx hn)
    · rw [show usesOf F x = ⟨[x.a, x.b], [], [], [], [x.dst]⟩ by simp [usesOf, ho, u0]]
      exact guses_some 98 _ v vx F x w hF hx (by rw [ho]; exact rule6) (enter_of Tryz.func98 (by kernel_rfl) rfl) (fun v vx w hF hx => gu98_any v vx F x w hF hx hn)
    · rw [show usesOf F x = takes F ⟨[], [], [], [], [x.dst]⟩ [x.a] by simp [usesOf, ho, u0]]
      exact guses_some 100 _ v vx F x w hF hx (by rw [ho]; exact rule7) (enter_of Tryz.func100 (by kernel_rfl) rfl) (fun v vx w hF hx => gu100_any v vx F x w hF hx hn)
    · rw [show usesOf F x = takes F ⟨[], [], [], [], [x.dst]⟩ x.args by simp [usesOf, ho, u0]]
      exact guses_some 101 _ v vx F x w hF hx (by rw [ho]; exact rule8) (enter_of Tryz.func101 (by kernel_rfl) rfl) (fun v vx w hF hx => gu101_any v vx F x w hF hx hn)
    · rw [show usesOf F x = ⟨[], [x.a], [], [], x.args⟩ by simp [usesOf, ho, u0]]
      exact guses_some 80 _ v vx F x w hF hx (by rw [ho]; exact rule9) (enter_of Tryz.func80 (by kernel_rfl) rfl) (fun v vx w hF hx => gu80_any v vx F x w hF hx hn)
    · rw [show usesOf F x = takes F ⟨[], [], [], [], [x.dst]⟩ [x.a] by simp [usesOf, ho, u0]]
      exact guses_some 100 _ v vx F x w hF hx (by rw [ho]; exact rule10) (enter_of Tryz.func100 (by kernel_rfl) rfl) (fun v vx w hF hx => gu100_any v vx F x w hF hx hn)
    · rw [show usesOf F x = ⟨[], [x.a], [], [], [x.dst]⟩ by simp [usesOf, ho, u0]]
      exact guses_some 85 _ v vx F x w hF hx (by rw [ho]; exact rule11) (enter_of Tryz.func85 (by kernel_rfl) rfl) (fun v vx w hF hx => gu85_any v vx F x w hF hx hn)
    · rw [show usesOf F x = lent F x.a x.dst [x.dst] by simp [usesOf, ho, u0]]
      exact guses_some 107 _ v vx F x w hF hx (by rw [ho]; exact rule12) (enter_of Tryz.func107 (by kernel_rfl) rfl) (fun v vx w hF hx => gu107_any v vx F x w hF hx hn)
    · rw [show usesOf F x = lent F x.a x.dst [x.dst] by simp [usesOf, ho, u0]]
      exact guses_some 107 _ v vx F x w hF hx (by rw [ho]; exact rule13) (enter_of Tryz.func107 (by kernel_rfl) rfl) (fun v vx w hF hx => gu107_any v vx F x w hF hx hn)
    · rw [show usesOf F x = lent F x.a x.dst [x.dst] by simp [usesOf, ho, u0]]
      exact guses_some 107 _ v vx F x w hF hx (by rw [ho]; exact rule14) (enter_of Tryz.func107 (by kernel_rfl) rfl) (fun v vx w hF hx => gu107_any v vx F x w hF hx hn)
    · rw [show usesOf F x = lent F x.a x.a x.args by simp [usesOf, ho, u0]]
      exact guses_some 109 _ v vx F x w hF hx (by rw [ho]; exact (fun w => rule_rest 15 w (some 109) (by decide) rule15)) (enter_of Tryz.func109 (by kernel_rfl) rfl) (fun v vx w hF hx => gu109_any v vx F x w hF hx hn)
    · rw [show usesOf F x = ⟨[x.a], [], [], [], [x.dst]⟩ by simp [usesOf, ho, u0]]
      exact guses_some 143 _ v vx F x w hF hx (by rw [ho]; exact (fun w => rule_rest 16 w (some 143) (by decide) rule16)) (enter_of Tryz.func143 (by kernel_rfl) rfl) (fun v vx w hF hx => gu143_any v vx F x w hF hx hn)
    · rw [show usesOf F x = takes F ⟨[], [], [], [x.a], []⟩ [x.b] by simp [usesOf, ho, u0]]
      exact guses_some 114 _ v vx F x w hF hx (by rw [ho]; exact (fun w => rule_rest 17 w (some 114) (by decide) rule17)) (enter_of Tryz.func114 (by kernel_rfl) rfl) (fun v vx w hF hx => gu114_any v vx F x w hF hx hn)
    · rw [show usesOf F x = ⟨[], [x.a], [], [], []⟩ by simp [usesOf, ho, u0]]
      exact guses_some 117 _ v vx F x w hF hx (by rw [ho]; exact (fun w => rule_rest 18 w (some 117) (by decide) rule18)) (enter_of Tryz.func117 (by kernel_rfl) rfl) (fun v vx w hF hx => gu117_any v vx F x w hF hx hn)
    · rw [show usesOf F x = takes F ⟨[], [], [], [], [x.dst]⟩ x.args by simp [usesOf, ho, u0]]
      exact guses_some 101 _ v vx F x w hF hx (by rw [ho]; exact (fun w => rule_rest 19 w (some 101) (by decide) rule19)) (enter_of Tryz.func101 (by kernel_rfl) rfl) (fun v vx w hF hx => gu101_any v vx F x w hF hx hn)
    · rw [show usesOf F x = takes F ⟨[], [], [], [], [x.dst]⟩ x.args by simp [usesOf, ho, u0]]
      exact guses_some 101 _ v vx F x w hF hx (by rw [ho]; exact (fun w => rule_rest 20 w (some 101) (by decide) rule20)) (enter_of Tryz.func101 (by kernel_rfl) rfl) (fun v vx w hF hx => gu101_any v vx F x w hF hx hn)
    · rw [show usesOf F x = ⟨[x.a], [], [], [], []⟩ by simp [usesOf, ho, u0]]
      exact guses_some 121 _ v vx F x w hF hx (by rw [ho]; exact (fun w => rule_rest 21 w (some 121) (by decide) rule21)) (enter_of Tryz.func121 (by kernel_rfl) rfl) (fun v vx w hF hx => gu121_any v vx F x w hF hx hn)
    · rw [show usesOf F x = ⟨[], [], [], [], [x.dst]⟩ by simp [usesOf, ho, u0]]
      exact guses_some 96 _ v vx F x w hF hx (by rw [ho]; exact (fun w => rule_rest 22 w (some 96) (by decide) rule22)) (enter_of Tryz.func96 (by kernel_rfl) rfl) (fun v vx w hF hx => gu96_any v vx F x w hF hx hn)
    · rw [show usesOf F x = takes F ⟨[x.a], [], [], [], [x.dst]⟩ [x.b] by simp [usesOf, ho, u0]]
      exact guses_some 124 _ v vx F x w hF hx (by rw [ho]; exact (fun w => rule_rest 23 w (some 124) (by decide) rule23)) (enter_of Tryz.func124 (by kernel_rfl) rfl) (fun v vx w hF hx => gu124_any v vx F x w hF hx hn)
    · rw [show usesOf F x = ⟨[], [], [], [], [x.dst]⟩ by simp [usesOf, ho, u0]]
      exact guses_some 96 _ v vx F x w hF hx (by rw [ho]; exact (fun w => rule_rest 24 w (some 96) (by decide) rule24)) (enter_of Tryz.func96 (by kernel_rfl) rfl) (fun v vx w hF hx => gu96_any v vx F x w hF hx hn)
    · rw [show usesOf F x = takes F ⟨[x.a], [], [], [], []⟩ [x.b] by simp [usesOf, ho, u0]]
      exact guses_some 127 _ v vx F x w hF hx (by rw [ho]; exact (fun w => rule_rest 25 w (some 127) (by decide) rule25)) (enter_of Tryz.func127 (by kernel_rfl) rfl) (fun v vx w hF hx => gu127_any v vx F x w hF hx hn)
    · rw [show usesOf F x = ⟨[x.a], [], [], [], [x.dst]⟩ by simp [usesOf, ho, u0]]
      exact guses_some 143 _ v vx F x w hF hx (by rw [ho]; exact (fun w => rule_rest 26 w (some 143) (by decide) rule26)) (enter_of Tryz.func143 (by kernel_rfl) rfl) (fun v vx w hF hx => gu143_any v vx F x w hF hx hn)
    · rw [show usesOf F x = takes F ⟨[], [], [], [], []⟩ x.args by simp [usesOf, ho, u0]]
      exact guses_some 129 _ v vx F x w hF hx (by rw [ho]; exact (fun w => rule_rest 27 w (some 129) (by decide) rule27)) (enter_of Tryz.func129 (by kernel_rfl) rfl) (fun v vx w hF hx => gu129_any v vx F x w hF hx hn)
    · rw [show usesOf F x = ⟨[], [], [], [], [x.b]⟩ by simp [usesOf, ho, u0]]
      exact guses_some 131 _ v vx F x w hF hx (by rw [ho]; exact (fun w => rule_rest 28 w (some 131) (by decide) rule28)) (enter_of Tryz.func131 (by kernel_rfl) rfl) (fun v vx w hF hx => gu131_any v vx F x w hF hx hn)
    · rw [show usesOf F x = ⟨[x.b], [x.a], [], [], []⟩ by simp [usesOf, ho, u0]]
      exact guses_some 133 _ v vx F x w hF hx (by rw [ho]; exact (fun w => rule_rest 29 w (some 133) (by decide) rule29)) (enter_of Tryz.func133 (by kernel_rfl) rfl) (fun v vx w hF hx => gu133_any v vx F x w hF hx hn)
  · rw [show usesOf F x = u0 by unfold usesOf; repeat rw [if_neg (by omega)]]
    exact guses_none v vx F x w hF hx (fun w => rule_rest x.op w none (by omega) (fun w => rule_none x.op w (by omega)))
set_option maxHeartbeats 4000000 in
set_option maxRecDepth 100000 in
theorem gends_any (v vx : Value) (F : Fn) (t : Term) (w : World) (hF : RFn w.cell? v F) (hx : RTerm w.cell? vx t) :
    Calls Tryz.prog 52 #[v, vx] w (UsPost w (endsOf F t)) := by
  obtain ⟨mo, pa, ar, vb, vr, vl', vk, vt, Ab, At, nb, cb, nt, ct, rfl, rfl, rfl, m1, m2, ⟨Ar, kr, rfl, hr1, hr2, hr3⟩, ⟨Al, kl, rfl, h1, h2, hL⟩, ⟨Ak, kk, rfl, hk1, hk2, hk3⟩⟩ := id hF
  obtain ⟨vy, rfl, ⟨Ay, ky, rfl, hy1, hy2, hy3⟩⟩ := id hx
  clear hr3 hk3 hL hy3
  have HF := Lib.hid (fun c (hc : Le w.cell? c) => hF.mono hc)
  clear hF hx
  by_cases h23 : t.kind = 2 ∨ t.kind = 3
  · have HU : Hid (endsOf F t = ⟨[t.a], [], [], [], []⟩) := by
      show endsOf F t = _
      simp [endsOf, h23]
    rcases h23 with h | h
    all_goals
      rw [h]
      clear h
      go_enter Tryz.func52, Tryz.ntmps52
      go_wp2_with fail
      rw [HU.out]
      refine bodyPost_ret (v := ?v0) ?h0 rfl ?r0
      case h0 =>
        simp [results, Tryz.results52, go_sem] <;> rfl
      case r0 =>
        refine ⟨⟨_, rfl, _, _, _, _, _, rfl, rints_box1 (Bx.at0 _ _ _ (by simp)), RSl.nil _ _ _, RSl.nil _ _ _, RSl.nil _ _ _, RSl.nil _ _ _⟩, ?_⟩
        repeat (first | apply Bl.alloc | exact Below.refl _ _)
  · have e2 : (t.kind == 2) = false := by simpa using fun h => h23 (.inl h)
    have e3 : (t.kind == 3) = false := by simpa using fun h => h23 (.inr h)
    by_cases h4 : t.kind = 4
    · have HU : Hid (endsOf F t = ⟨(tkU F [] [] [t.a]).copies, (tkU F [] [] [t.a]).moves, [], [], []⟩) := by
        show endsOf F t = _
        rw [show endsOf F t = takes F ⟨[], [], [], [], []⟩ [t.a] by simp [endsOf, h4, u0], takes_eq]
      rw [h4]
      clear h4 e2 e3 h23
      go_enter Tryz.func52, Tryz.ntmps52
      go_wp2_with fail
      refine (gtakes_any [] _ F _ _ _ _ _ _ _ _ _ _ _ _ [] [] [t.a] _ ?hF ?hl ?oc ?om ?ne ?dc ?dm ?hD ?hn).mono ?_
      case hF => exact HF.out _ (le_lookD (by repeat (first | exact Below.refl _ _ | apply Bl.alloc)) (by simp))
      case hl => exact rints_boxD _ (Bx.at0 _ _ _ (by simp)) (by simp)
      case oc => exact World.ownsRow_nil _ _ _ _
      case om => exact World.ownsRow_nil _ _ _ _
      case ne => simp [Value.ownBlock]
      case dc => simp [Value.ownBlock]
      case dm => simp [Value.ownBlock]
      case hD => simp
      case hn => simp
      rintro e w1 ⟨vc, vm, rfl, oc, om, ne, bc, bm, ch⟩
      obtain ⟨Ac, kc, rfl⟩ := own_shape oc
      obtain ⟨Am, km, rfl⟩ := own_shape om
      have RC := Lib.hid (RInts.of_own [w.heap.size + 2] oc (fun k hk hm => by
        have := bc k hk
        simp at this hm
        omega))
      have RM := Lib.hid (RInts.of_own [w.heap.size + 2] om (fun k hk hm => by
        have := bm k hk
        simp at this hm
        omega))
      have bR := Bx.chg (D := []) (w' := w1) (b := w.heap.size + 1 + 1) (t := 40) (cs := #[.slice none 0 0, .slice none 0 0, .slice none 0 0, .slice none 0 0, .slice none 0 0]) (by repeat (first | (refine Bx.at0 _ _ _ ?_; (simp; done)) | apply Bx.alloc)) ch (by simp)
      have HB1 := Lib.hid (Bl.chg (w := w) (by repeat (first | apply Bl.alloc | exact Below.refl _ _)) ch (by simp))
      clear ch oc om ne bc bm
      have cR := bR.cell
      have fR := bR.frozen
      clear bR
      go_wp2_with fail
      rw [HU.out]
      refine bodyPost_ret (v := ?v1) ?h1 rfl ?r1
      case h1 =>
        simp [results, Tryz.results52, go_sem, cR, fR] <;> rfl
      case r1 =>
        refine ⟨⟨_, rfl, _, _, _, _, _, rfl, ?_, ?_, RSl.nil _ _ _, RSl.nil _ _ _, RSl.nil _ _ _⟩, ?_⟩
        · exact RC.out.mono monoInt (Chg.le' (by repeat (first | refine Chg.put ?_ (.inl (by simp)) _ | exact Chg.refl _ w1)))
        · exact RM.out.mono monoInt (Chg.le' (by repeat (first | refine Chg.put ?_ (.inl (by simp)) _ | exact Chg.refl _ w1)))
        · exact Bl.chg HB1.out (D := [w.heap.size + 2]) (by repeat (first | refine Chg.put ?_ (.inl (by simp)) _ | exact Chg.refl _ w1)) (by simp)
    · have e4 : (t.kind == 4) = false := by simpa using h4
      have HU : Hid (endsOf F t = u0) := by
        show endsOf F t = _
        simp [endsOf, h23, h4]
      clear h4 h23
      go_enter Tryz.func52, Tryz.ntmps52
      go_wp2_with fail
      rw [HU.out]
      refine bodyPost_ret (v := ?v2) ?h2 rfl ?r2
      case h2 =>
        simp [results, Tryz.results52, go_sem] <;> rfl
      case r2 =>
        refine ⟨⟨_, rfl, _, _, _, _, _, rfl, RSl.nil _ _ _, RSl.nil _ _ _, RSl.nil _ _ _, RSl.nil _ _ _, RSl.nil _ _ _⟩, ?_⟩
        repeat (first | apply Bl.alloc | exact Below.refl _ _)
end Go.Proofs.YtdkjkgokllmkmaaGreatDoor.Lv
