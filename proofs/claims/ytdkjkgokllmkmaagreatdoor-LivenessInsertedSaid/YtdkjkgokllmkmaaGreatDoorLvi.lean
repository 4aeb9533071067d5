/- Walks: the uses of a terminator and of a point (the reference's). -/
import Derived.Test.YtdkjkgokllmkmaaGreatDoorLvf
namespace Go.Proofs.YtdkjkgokllmkmaaGreatDoor.Lv
open Go.RowKit
set_option linter.unusedVariables false
set_option linter.unusedSimpArgs false
def RTerm (c : Lk) (v : Value) (t : Term) : Prop := ∃ vt, v = .agg #[.int .i64 t.kind, .int .i64 t.a, vt] ∧ RInts c vt t.targets
theorem RTerm.mono {c c' : Lk} {v : Value} {t : Term} (hc : Le c c') (h : RTerm c v t) : RTerm c' v t := by
  obtain ⟨vt, rfl, h1⟩ := h
  exact ⟨vt, rfl, h1.mono monoInt hc⟩
set_option maxHeartbeats 4000000 in
set_option maxRecDepth 100000 in
theorem ends_any (v vx : Value) (F : Fn) (t : Term) (w : World) (hF : RFn w.cell? v F) (hx : RTerm w.cell? vx t) :
    Calls Tryz.prog 38 #[v, vx] w (UsPost w (endsOf F t)) := by
  obtain ⟨mo, pa, ar, vb, vr, vl', vk, vt, Ab, At, nb, cb, nt, ct, rfl, rfl, rfl, m1, m2, ⟨Ar, kr, rfl, hr1, hr2, hr3⟩, ⟨Al, kl, rfl, h1, h2, hL⟩, ⟨Ak, kk, rfl, hk1, hk2, hk3⟩⟩ := id hF
  obtain ⟨vy, rfl, ⟨Ay, ky, rfl, hy1, hy2, hy3⟩⟩ := id hx
  clear hr3 hk3 hL hy3
  have HF := Lib.hid (fun c (hc : Le w.cell? c) => hF.mono hc)
  clear hF hx
  by_cases h23 : t.kind = 2 ∨ t.kind = 3
  · have HU : Hid (endsOf F t = ⟨[t.a], [], [], [], []⟩) := by
      show endsOf F t = _
      simp [endsOf, h23]
    rcases h23 with h | h
    all_goals
      rw [h]
      clear h
      go_enter Tryz.func38, Tryz.ntmps38
      go_wp2_with fail
      rw [HU.out]
      refine bodyPost_ret (v := ?v0) ?h0 rfl ?r0
      case h0 =>
        simp [results, Tryz.results38, go_sem] <;> rfl
      case r0 =>
        refine ⟨⟨_, rfl, _, _, _, _, _, rfl, rints_box1 (Bx.at0 _ _ _ (by simp)), RSl.nil _ _ _, RSl.nil _ _ _, RSl.nil _ _ _, RSl.nil _ _ _⟩, ?_⟩
        repeat (first | apply Bl.alloc | exact Below.refl _ _)
  · have e2 : (t.kind == 2) = false := by simpa using fun h => h23 (.inl h)
    have e3 : (t.kind == 3) = false := by simpa using fun h => h23 (.inr h)
    by_cases h4 : t.kind = 4
    · have HU : Hid (endsOf F t = ⟨(tkU F [] [] [t.a]).copies, (tkU F [] [] [t.a]).moves, [], [], []⟩) := by
        show endsOf F t = _
        rw [show endsOf F t = takes F ⟨[], [], [], [], []⟩ [t.a] by simp [endsOf, h4, u0], takes_eq]
      rw [h4]
      clear h4 e2 e3 h23
      go_enter Tryz.func38, Tryz.ntmps38
      go_wp2_with fail
      refine (taken_any [] _ F _ _ _ _ _ _ _ _ _ _ _ _ [] [] [t.a] _ ?hF ?hl ?oc ?om ?ne ?dc ?dm ?hD ?hn).mono ?_
      case hF => exact HF.out _ (le_lookD (by repeat (first | exact Below.refl _ _ | apply Bl.alloc)) (by simp))
      case hl => exact rints_boxD _ (Bx.at0 _ _ _ (by simp)) (by simp)
      case oc => exact World.ownsRow_nil _ _ _ _
      case om => exact World.ownsRow_nil _ _ _ _
      case ne => simp [Value.ownBlock]
      case dc => simp [Value.ownBlock]
      case dm => simp [Value.ownBlock]
      case hD => simp
      case hn => simp
      rintro e w1 ⟨vc, vm, rfl, oc, om, ne, bc, bm, ch⟩
      obtain ⟨Ac, kc, rfl⟩ := own_shape oc
      obtain ⟨Am, km, rfl⟩ := own_shape om
      have RC := Lib.hid (RInts.of_own [w.heap.size + 2] oc (fun k hk hm => by
        have := bc k hk
        simp at this hm
        omega))
      have RM := Lib.hid (RInts.of_own [w.heap.size + 2] om (fun k hk hm => by
        have := bm k hk
        simp at this hm
        omega))
      have bR := Bx.chg (D := []) (w' := w1) (b := w.heap.size + 1 + 1) (t := 40) (cs := #[.slice none 0 0, .slice none 0 0, .slice none 0 0, .slice none 0 0, .slice none 0 0]) (by repeat (first | (refine Bx.at0 _ _ _ ?_; (simp; done)) | apply Bx.alloc)) ch (by simp)
      have HB1 := Lib.hid (Bl.chg (w := w) (by repeat (first | apply Bl.alloc | exact Below.refl _ _)) ch (by simp))
      clear ch oc om ne bc bm
      have cR := bR.cell
      have fR := bR.frozen
      clear bR
      go_wp2_with fail
      rw [HU.out]
      refine bodyPost_ret (v := ?v1) ?h1 rfl ?r1
      case h1 =>
        simp [results, Tryz.results38, go_sem, cR, fR] <;> rfl
      case r1 =>
        refine ⟨⟨_, rfl, _, _, _, _, _, rfl, ?_, ?_, RSl.nil _ _ _, RSl.nil _ _ _, RSl.nil _ _ _⟩, ?_⟩
        · exact RC.out.mono monoInt (Chg.le' (by repeat (first | refine Chg.put ?_ (.inl (by simp)) _ | exact Chg.refl _ w1)))
        · exact RM.out.mono monoInt (Chg.le' (by repeat (first | refine Chg.put ?_ (.inl (by simp)) _ | exact Chg.refl _ w1)))
        · exact Bl.chg HB1.out (D := [w.heap.size + 2]) (by repeat (first | refine Chg.put ?_ (.inl (by simp)) _ | exact Chg.refl _ w1)) (by simp)
    · have e4 : (t.kind == 4) = false := by simpa using h4
      have HU : Hid (endsOf F t = u0) := by
        show endsOf F t = _
        simp [endsOf, h23, h4]
      clear h4 h23
      go_enter Tryz.func38, Tryz.ntmps38
      go_wp2_with fail
      rw [HU.out]
      refine bodyPost_ret (v := ?v2) ?h2 rfl ?r2
      case h2 =>
        simp [results, Tryz.results38, go_sem] <;> rfl
      case r2 =>
        refine ⟨⟨_, rfl, _, _, _, _, _, rfl, RSl.nil _ _ _, RSl.nil _ _ _, RSl.nil _ _ _, RSl.nil _ _ _, RSl.nil _ _ _⟩, ?_⟩
        repeat (first | apply Bl.alloc | exact Below.refl _ _)
end Go.Proofs.YtdkjkgokllmkmaaGreatDoor.Lv
