/- Walks: the uses of an instruction (the reference's), joined; of a terminator; of a point. -/
import Derived.Test.YtdkjkgokllmkmaaGreatDoorLvg
namespace Go.Proofs.YtdkjkgokllmkmaaGreatDoor.Lv
open Go.RowKit
set_option linter.unusedVariables false
set_option linter.unusedSimpArgs false
set_option maxHeartbeats 4000000 in
set_option maxRecDepth 100000 in
theorem uses_none (v vx : Value) (F : Fn) (x : Ins) (w : World) (hF : RFn w.cell? v F) (hx : RIns w.cell? vx x) (ho : ¬ (1 ≤ x.op ∧ x.op ≤ 29)) :
    Calls Tryz.prog 37 #[v, vx] w (UsPost w (usesOf F x)) := by
  obtain ⟨mo, pa, ar, vb, vr, vl', vk, vt, Ab, At, nb, cb, nt, ct, rfl, rfl, rfl, m1, m2, ⟨Ar, kr, rfl, hr1, hr2, hr3⟩, ⟨Al, kl, rfl, h1, h2, hL⟩, ⟨Ak, kk, rfl, hk1, hk2, hk3⟩⟩ := id hF
  obtain ⟨va, vy, rfl, ⟨Aa, ka, rfl, ha1, ha2, ha3⟩, ⟨Ay, ky, rfl, hy1, hy2, hy3⟩⟩ := id hx
  clear hr3 hk3 hL hy3 hF hx ha3
  have HU : Hid (usesOf F x = u0) := by
    show usesOf F x = _
    unfold usesOf
    repeat rw [if_neg (by omega)]
  have q1 : (x.op == 1) = false := by simpa using fun h => ho (by omega)
  have q2 : (x.op == 2) = false := by simpa using fun h => ho (by omega)
  have q3 : (x.op == 3) = false := by simpa using fun h => ho (by omega)
  have q4 : (x.op == 4) = false := by simpa using fun h => ho (by omega)
  have q5 : (x.op == 5) = false := by simpa using fun h => ho (by omega)
  have q6 : (x.op == 6) = false := by simpa using fun h => ho (by omega)
  have q7 : (x.op == 7) = false := by simpa using fun h => ho (by omega)
  have q8 : (x.op == 8) = false := by simpa using fun h => ho (by omega)
  have q9 : (x.op == 9) = false := by simpa using fun h => ho (by omega)
  have q10 : (x.op == 10) = false := by simpa using fun h => ho (by omega)
  have q11 : (x.op == 11) = false := by simpa using fun h => ho (by omega)
  have q12 : (x.op == 12) = false := by simpa using fun h => ho (by omega)
  have q13 : (x.op == 13) = false := by simpa using fun h => ho (by omega)
  have q14 : (x.op == 14) = false := by simpa using fun h => ho (by omega)
  have q15 : (x.op == 15) = false := by simpa using fun h => ho (by omega)
  have q16 : (x.op == 16) = false := by simpa using fun h => ho (by omega)
  have q17 : (x.op == 17) = false := by simpa using fun h => ho (by omega)
  have q18 : (x.op == 18) = false := by simpa using fun h => ho (by omega)
  have q19 : (x.op == 19) = false := by simpa using fun h => ho (by omega)
  have q20 : (x.op == 20) = false := by simpa using fun h => ho (by omega)
  have q21 : (x.op == 21) = false := by simpa using fun h => ho (by omega)
  have q22 : (x.op == 22) = false := by simpa using fun h => ho (by omega)
  have q23 : (x.op == 23) = false := by simpa using fun h => ho (by omega)
  have q24 : (x.op == 24) = false := by simpa using fun h => ho (by omega)
  have q25 : (x.op == 25) = false := by simpa using fun h => ho (by omega)
  have q26 : (x.op == 26) = false := by simpa using fun h => ho (by omega)
  have q27 : (x.op == 27) = false := by simpa using fun h => ho (by omega)
  have q28 : (x.op == 28) = false := by simpa using fun h => ho (by omega)
  have q29 : (x.op == 29) = false := by simpa using fun h => ho (by omega)
  clear ho
  go_enter Tryz.func37, Tryz.ntmps37
  go_wp2_with fail
  rw [HU.out]
  refine bodyPost_ret (v := ?v) ?h rfl ?r
  case h =>
    simp [results, Tryz.results37, go_sem] <;> rfl
  case r =>
    refine ⟨⟨_, rfl, _, _, _, _, _, rfl, RSl.nil _ _ _, RSl.nil _ _ _, RSl.nil _ _ _, RSl.nil _ _ _, RSl.nil _ _ _⟩, ?_⟩
    repeat (first | apply Bl.alloc | exact Below.refl _ _)
theorem uses_any (v vx : Value) (F : Fn) (x : Ins) (w : World) (hF : RFn w.cell? v F) (hx : RIns w.cell? vx x) (hn : x.args.length ≤ 100000) :
    Calls Tryz.prog 37 #[v, vx] w (UsPost w (usesOf F x)) := by
  by_cases ho : 1 ≤ x.op ∧ x.op ≤ 29
  · have hc : x.op = 1 ∨ x.op = 2 ∨ x.op = 3 ∨ x.op = 4 ∨ x.op = 5 ∨ x.op = 6 ∨ x.op = 7 ∨ x.op = 8 ∨ x.op = 9 ∨ x.op = 10 ∨ x.op = 11 ∨ x.op = 12 ∨ x.op = 13 ∨ x.op = 14 ∨ x.op = 15 ∨ x.op = 16 ∨ x.op = 17 ∨ x.op = 18 ∨ x.op = 19 ∨ x.op = 20 ∨ x.op = 21 ∨ x.op = 22 ∨ x.op = 23 ∨ x.op = 24 ∨ x.op = 25 ∨ x.op = 26 ∨ x.op = 27 ∨ x.op = 28 ∨ x.op = 29 := by omega
    have hd : (kindOf F x.dst == 7) = true ∨ (kindOf F x.dst == 7) = false := by cases (kindOf F x.dst == 7) <;> simp
    have ha : (kindOf F x.a == 7) = true ∨ (kindOf F x.a == 7) = false := by cases (kindOf F x.a == 7) <;> simp
    rcases hc with h | h | h | h | h | h | h | h | h | h | h | h | h | h | h | h | h | h | h | h | h | h | h | h | h | h | h | h | h
    · exact uses_a v vx F x w hF hx hn (by omega)
    · exact uses_b v vx F x w hF hx hn (by omega)
    · exact uses_b v vx F x w hF hx hn (by omega)
    · exact uses_b v vx F x w hF hx hn (by omega)
    · exact uses_b v vx F x w hF hx hn (by omega)
    · exact uses_b v vx F x w hF hx hn (by omega)
    · exact uses_op7 v vx F x w hF hx hn h
    · exact uses_op8 v vx F x w hF hx hn h
    · exact uses_c v vx F x w hF hx hn (by omega)
    · exact uses_op10 v vx F x w hF hx hn h
    · exact uses_d v vx F x w hF hx hn (by omega)
    · rcases hd with hd | hd
      · exact uses_op12t v vx F x w hF hx hn h hd
      · exact uses_op12f v vx F x w hF hx hn h hd
    · rcases hd with hd | hd
      · exact uses_op13t v vx F x w hF hx hn h hd
      · exact uses_op13f v vx F x w hF hx hn h hd
    · rcases hd with hd | hd
      · exact uses_op14t v vx F x w hF hx hn h hd
      · exact uses_op14f v vx F x w hF hx hn h hd
    · rcases ha with ha | ha
      · exact uses_op15t v vx F x w hF hx hn h ha
      · exact uses_op15f v vx F x w hF hx hn h ha
    · exact uses_e v vx F x w hF hx hn (by omega)
    · exact uses_op17 v vx F x w hF hx hn h
    · exact uses_f v vx F x w hF hx hn (by omega)
    · exact uses_op19 v vx F x w hF hx hn h
    · exact uses_op20 v vx F x w hF hx hn h
    · exact uses_g v vx F x w hF hx hn (by omega)
    · exact uses_a v vx F x w hF hx hn (by omega)
    · exact uses_op23 v vx F x w hF hx hn h
    · exact uses_a v vx F x w hF hx hn (by omega)
    · exact uses_op25 v vx F x w hF hx hn h
    · exact uses_e v vx F x w hF hx hn (by omega)
    · exact uses_op27 v vx F x w hF hx hn h
    · exact uses_h v vx F x w hF hx hn (by omega)
    · exact uses_i v vx F x w hF hx hn (by omega)
  · exact uses_none v vx F x w hF hx ho
end Go.Proofs.YtdkjkgokllmkmaaGreatDoor.Lv
