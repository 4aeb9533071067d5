/- Walks: the uses of an instruction (the reference's). -/
import Derived.Test.YtdkjkgokllmkmaaGreatDoorLvd
namespace Go.Proofs.YtdkjkgokllmkmaaGreatDoor.Lv
open Go.RowKit
set_option linter.unusedVariables false
set_option linter.unusedSimpArgs false
def RIns (c : Lk) (v : Value) (x : Ins) : Prop :=
  ∃ va vt, v = .agg #[.int .i64 x.op, .int .i64 x.dst, .int .i64 x.a, .int .i64 x.b, .int .i64 x.n, va, vt] ∧ RInts c va x.args ∧ RSl KTy 3 c vt x.types
theorem RIns.mono {c c' : Lk} {v : Value} {x : Ins} (hc : Le c c') (h : RIns c v x) : RIns c' v x := by
  obtain ⟨va, vt, rfl, h1, h2⟩ := h
  exact ⟨va, vt, rfl, h1.mono monoInt hc, h2.mono monoTy hc⟩
def UsPost (w : World) (u : Us) (e : Ending) (w' : World) : Prop := (∃ vu, e = .returned vu ∧ RUs w'.cell? vu u) ∧ Below w.heap.size w w'
theorem Bx.at0 (w : World) (t : Nat) (cs : Array Value) {b : Nat} (hb : b = w.heap.size) : Bx (w.alloc (.cells cs t)) b t cs := by
  subst hb
  exact Bx.new w t cs
theorem rints_box {w : World} {b : Nat} {xs : List Int} {A : Array Value} (h : Bx w b 3 A) (hA : A = (ints xs).toArray) (hm : xs.length ≤ maxLen) : RInts w.cell? (.slice (some ⟨b, 0, none⟩) xs.length xs.length) xs := by
  rw [← look_nil]
  subst hA
  exact RInts.of_own (e := 3) (base := 0) [] ⟨by simp, .inr ⟨b, xs.length, _, rfl, Nat.zero_le _, h, Nat.le_refl _, hm, by simp, by
    rw [List.take_of_length_le (by simp)]⟩⟩ (by simp)
theorem rints_box1 {w : World} {b : Nat} {x : Int} (h : Bx w b 3 #[.int .i64 x]) : RInts w.cell? (.slice (some ⟨b, 0, none⟩) 1 1) [x] := rints_box (xs := [x]) h rfl (by simp [maxLen])
theorem rints_box2 {w : World} {b : Nat} {x y : Int} (h : Bx w b 3 #[.int .i64 x, .int .i64 y]) : RInts w.cell? (.slice (some ⟨b, 0, none⟩) 2 2) [x, y] := rints_box (xs := [x, y]) h rfl (by simp [maxLen])
set_option maxHeartbeats 4000000 in
set_option maxRecDepth 100000 in
theorem uses_a (v vx : Value) (F : Fn) (x : Ins) (w : World) (hF : RFn w.cell? v F) (hx : RIns w.cell? vx x) (hn : x.args.length ≤ 100000) (ho : x.op = 1 ∨ x.op = 22 ∨ x.op = 24) :
    Calls Tryz.prog 37 #[v, vx] w (UsPost w (usesOf F x)) := by
  obtain ⟨mo, pa, ar, vb, vr, vl', vk, vt, Ab, At, nb, cb, nt, ct, rfl, rfl, rfl, m1, m2, ⟨Ar, kr, rfl, hr1, hr2, hr3⟩, ⟨Al, kl, rfl, h1, h2, hL⟩, ⟨Ak, kk, rfl, hk1, hk2, hk3⟩⟩ := id hF
  obtain ⟨va, vy, rfl, ⟨Aa, ka, rfl, ha1, ha2, ha3⟩, ⟨Ay, ky, rfl, hy1, hy2, hy3⟩⟩ := id hx
  clear hr3 hk3 hL hy3
  have HF := Lib.hid (fun c (hc : Le w.cell? c) => hF.mono hc)
  have HA : Hid (∀ c, Le w.cell? c → RInts c (.slice Aa x.args.length ka) x.args) := fun c hc => ⟨Aa, ka, rfl, ha1, ha2, ha3.mono monoInt hc⟩
  clear hF hx ha3
  have HU : Hid (usesOf F x = ⟨[], [], [], [], [x.dst]⟩) := by
    show usesOf F x = _
    rcases ho with ho | ho | ho <;> simp [usesOf, ho]
  rcases ho with ho | ho | ho
  all_goals
    rw [ho]
    clear ho
    go_enter Tryz.func37, Tryz.ntmps37
    go_wp2_with fail
    rw [HU.out]
    refine bodyPost_ret (v := ?v) ?h rfl ?r
    case h =>
      simp [results, Tryz.results37, go_sem] <;> rfl
    case r =>
      refine ⟨⟨_, rfl, _, _, _, _, _, rfl, ?_, ?_, ?_, ?_, ?_⟩, ?_⟩
      all_goals (try dsimp only)
      all_goals first
        | exact RSl.nil _ _ _
        | exact rints_box1 (Bx.at0 _ _ _ (by simp))
        | exact rints_box2 (Bx.at0 _ _ _ (by simp))
        | exact rints_box1 (Bx.alloc (Bx.at0 _ _ _ (by simp)) _)
        | exact rints_box2 (Bx.alloc (Bx.at0 _ _ _ (by simp)) _)
        | exact HA.out _ (Bl.le (by repeat (first | exact Below.refl _ _ | apply Bl.alloc)))
        | (repeat (first | exact Below.refl _ _ | apply Bl.alloc))
set_option maxHeartbeats 4000000 in
set_option maxRecDepth 100000 in
theorem uses_b (v vx : Value) (F : Fn) (x : Ins) (w : World) (hF : RFn w.cell? v F) (hx : RIns w.cell? vx x) (hn : x.args.length ≤ 100000) (ho : x.op = 2 ∨ x.op = 3 ∨ x.op = 4 ∨ x.op = 5 ∨ x.op = 6) :
    Calls Tryz.prog 37 #[v, vx] w (UsPost w (usesOf F x)) := by
  obtain ⟨mo, pa, ar, vb, vr, vl', vk, vt, Ab, At, nb, cb, nt, ct, rfl, rfl, rfl, m1, m2, ⟨Ar, kr, rfl, hr1, hr2, hr3⟩, ⟨Al, kl, rfl, h1, h2, hL⟩, ⟨Ak, kk, rfl, hk1, hk2, hk3⟩⟩ := id hF
  obtain ⟨va, vy, rfl, ⟨Aa, ka, rfl, ha1, ha2, ha3⟩, ⟨Ay, ky, rfl, hy1, hy2, hy3⟩⟩ := id hx
  clear hr3 hk3 hL hy3
  have HF := Lib.hid (fun c (hc : Le w.cell? c) => hF.mono hc)
  have HA : Hid (∀ c, Le w.cell? c → RInts c (.slice Aa x.args.length ka) x.args) := fun c hc => ⟨Aa, ka, rfl, ha1, ha2, ha3.mono monoInt hc⟩
  clear hF hx ha3
  have HU : Hid (usesOf F x = ⟨[x.a, x.b], [], [], [], [x.dst]⟩) := by
    show usesOf F x = _
    rcases ho with ho | ho | ho | ho | ho <;> simp [usesOf, ho]
  rcases ho with ho | ho | ho | ho | ho
  all_goals
    rw [ho]
    clear ho
    go_enter Tryz.func37, Tryz.ntmps37
    go_wp2_with fail
    rw [HU.out]
    refine bodyPost_ret (v := ?v) ?h rfl ?r
    case h =>
      simp [results, Tryz.results37, go_sem] <;> rfl
    case r =>
      refine ⟨⟨_, rfl, _, _, _, _, _, rfl, ?_, ?_, ?_, ?_, ?_⟩, ?_⟩
      all_goals (try dsimp only)
      all_goals first
        | exact RSl.nil _ _ _
        | exact rints_box1 (Bx.at0 _ _ _ (by simp))
        | exact rints_box2 (Bx.at0 _ _ _ (by simp))
        | exact rints_box1 (Bx.alloc (Bx.at0 _ _ _ (by simp)) _)
        | exact rints_box2 (Bx.alloc (Bx.at0 _ _ _ (by simp)) _)
        | exact HA.out _ (Bl.le (by repeat (first | exact Below.refl _ _ | apply Bl.alloc)))
        | (repeat (first | exact Below.refl _ _ | apply Bl.alloc))
set_option maxHeartbeats 4000000 in
set_option maxRecDepth 100000 in
theorem uses_c (v vx : Value) (F : Fn) (x : Ins) (w : World) (hF : RFn w.cell? v F) (hx : RIns w.cell? vx x) (hn : x.args.length ≤ 100000) (ho : x.op = 9) :
    Calls Tryz.prog 37 #[v, vx] w (UsPost w (usesOf F x)) := by
  obtain ⟨mo, pa, ar, vb, vr, vl', vk, vt, Ab, At, nb, cb, nt, ct, rfl, rfl, rfl, m1, m2, ⟨Ar, kr, rfl, hr1, hr2, hr3⟩, ⟨Al, kl, rfl, h1, h2, hL⟩, ⟨Ak, kk, rfl, hk1, hk2, hk3⟩⟩ := id hF
  obtain ⟨va, vy, rfl, ⟨Aa, ka, rfl, ha1, ha2, ha3⟩, ⟨Ay, ky, rfl, hy1, hy2, hy3⟩⟩ := id hx
  clear hr3 hk3 hL hy3
  have HF := Lib.hid (fun c (hc : Le w.cell? c) => hF.mono hc)
  have HA : Hid (∀ c, Le w.cell? c → RInts c (.slice Aa x.args.length ka) x.args) := fun c hc => ⟨Aa, ka, rfl, ha1, ha2, ha3.mono monoInt hc⟩
  clear hF hx ha3
  have HU : Hid (usesOf F x = ⟨[], [x.a], [], [], x.args⟩) := by
    show usesOf F x = _
    simp [usesOf, ho]
  all_goals
    rw [ho]
    clear ho
    go_enter Tryz.func37, Tryz.ntmps37
    go_wp2_with fail
    rw [HU.out]
    refine bodyPost_ret (v := ?v) ?h rfl ?r
    case h =>
      simp [results, Tryz.results37, go_sem] <;> rfl
    case r =>
      refine ⟨⟨_, rfl, _, _, _, _, _, rfl, ?_, ?_, ?_, ?_, ?_⟩, ?_⟩
      all_goals (try dsimp only)
      all_goals first
        | exact RSl.nil _ _ _
        | exact rints_box1 (Bx.at0 _ _ _ (by simp))
        | exact rints_box2 (Bx.at0 _ _ _ (by simp))
        | exact rints_box1 (Bx.alloc (Bx.at0 _ _ _ (by simp)) _)
        | exact rints_box2 (Bx.alloc (Bx.at0 _ _ _ (by simp)) _)
        | exact HA.out _ (Bl.le (by repeat (first | exact Below.refl _ _ | apply Bl.alloc)))
        | (repeat (first | exact Below.refl _ _ | apply Bl.alloc))
set_option maxHeartbeats 4000000 in
set_option maxRecDepth 100000 in
theorem uses_d (v vx : Value) (F : Fn) (x : Ins) (w : World) (hF : RFn w.cell? v F) (hx : RIns w.cell? vx x) (hn : x.args.length ≤ 100000) (ho : x.op = 11) :
    Calls Tryz.prog 37 #[v, vx] w (UsPost w (usesOf F x)) := by
  obtain ⟨mo, pa, ar, vb, vr, vl', vk, vt, Ab, At, nb, cb, nt, ct, rfl, rfl, rfl, m1, m2, ⟨Ar, kr, rfl, hr1, hr2, hr3⟩, ⟨Al, kl, rfl, h1, h2, hL⟩, ⟨Ak, kk, rfl, hk1, hk2, hk3⟩⟩ := id hF
  obtain ⟨va, vy, rfl, ⟨Aa, ka, rfl, ha1, ha2, ha3⟩, ⟨Ay, ky, rfl, hy1, hy2, hy3⟩⟩ := id hx
  clear hr3 hk3 hL hy3
  have HF := Lib.hid (fun c (hc : Le w.cell? c) => hF.mono hc)
  have HA : Hid (∀ c, Le w.cell? c → RInts c (.slice Aa x.args.length ka) x.args) := fun c hc => ⟨Aa, ka, rfl, ha1, ha2, ha3.mono monoInt hc⟩
  clear hF hx ha3
  have HU : Hid (usesOf F x = ⟨[], [x.a], [], [], [x.dst]⟩) := by
    show usesOf F x = _
    simp [usesOf, ho]
  all_goals
    rw [ho]
    clear ho
    go_enter Tryz.func37, Tryz.ntmps37
    go_wp2_with fail
    rw [HU.out]
    refine bodyPost_ret (v := ?v) ?h rfl ?r
    case h =>
      simp [results, Tryz.results37, go_sem] <;> rfl
    case r =>
      refine ⟨⟨_, rfl, _, _, _, _, _, rfl, ?_, ?_, ?_, ?_, ?_⟩, ?_⟩
      all_goals (try dsimp only)
      all_goals first
        | exact RSl.nil _ _ _
        | exact rints_box1 (Bx.at0 _ _ _ (by simp))
        | exact rints_box2 (Bx.at0 _ _ _ (by simp))
        | exact rints_box1 (Bx.alloc (Bx.at0 _ _ _ (by simp)) _)
        | exact rints_box2 (Bx.alloc (Bx.at0 _ _ _ (by simp)) _)
        | exact HA.out _ (Bl.le (by repeat (first | exact Below.refl _ _ | apply Bl.alloc)))
        | (repeat (first | exact Below.refl _ _ | apply Bl.alloc))
set_option maxHeartbeats 4000000 in
set_option maxRecDepth 100000 in
theorem uses_e (v vx : Value) (F : Fn) (x : Ins) (w : World) (hF : RFn w.cell? v F) (hx : RIns w.cell? vx x) (hn : x.args.length ≤ 100000) (ho : x.op = 16 ∨ x.op = 26) :
    Calls Tryz.prog 37 #[v, vx] w (UsPost w (usesOf F x)) := by
  obtain ⟨mo, pa, ar, vb, vr, vl', vk, vt, Ab, At, nb, cb, nt, ct, rfl, rfl, rfl, m1, m2, ⟨Ar, kr, rfl, hr1, hr2, hr3⟩, ⟨Al, kl, rfl, h1, h2, hL⟩, ⟨Ak, kk, rfl, hk1, hk2, hk3⟩⟩ := id hF
  obtain ⟨va, vy, rfl, ⟨Aa, ka, rfl, ha1, ha2, ha3⟩, ⟨Ay, ky, rfl, hy1, hy2, hy3⟩⟩ := id hx
  clear hr3 hk3 hL hy3
  have HF := Lib.hid (fun c (hc : Le w.cell? c) => hF.mono hc)
  have HA : Hid (∀ c, Le w.cell? c → RInts c (.slice Aa x.args.length ka) x.args) := fun c hc => ⟨Aa, ka, rfl, ha1, ha2, ha3.mono monoInt hc⟩
  clear hF hx ha3
  have HU : Hid (usesOf F x = ⟨[x.a], [], [], [], [x.dst]⟩) := by
    show usesOf F x = _
    rcases ho with ho | ho <;> simp [usesOf, ho]
  rcases ho with ho | ho
  all_goals
    rw [ho]
    clear ho
    go_enter Tryz.func37, Tryz.ntmps37
    go_wp2_with fail
    rw [HU.out]
    refine bodyPost_ret (v := ?v) ?h rfl ?r
    case h =>
      simp [results, Tryz.results37, go_sem] <;> rfl
    case r =>
      refine ⟨⟨_, rfl, _, _, _, _, _, rfl, ?_, ?_, ?_, ?_, ?_⟩, ?_⟩
      all_goals (try dsimp only)
      all_goals first
        | exact RSl.nil _ _ _
        | exact rints_box1 (Bx.at0 _ _ _ (by simp))
        | exact rints_box2 (Bx.at0 _ _ _ (by simp))
        | exact rints_box1 (Bx.alloc (Bx.at0 _ _ _ (by simp)) _)
        | exact rints_box2 (Bx.alloc (Bx.at0 _ _ _ (by simp)) _)
        | exact HA.out _ (Bl.le (by repeat (first | exact Below.refl _ _ | apply Bl.alloc)))
        | (repeat (first | exact Below.refl _ _ | apply Bl.alloc))
set_option maxHeartbeats 4000000 in
set_option maxRecDepth 100000 in
theorem uses_f (v vx : Value) (F : Fn) (x : Ins) (w : World) (hF : RFn w.cell? v F) (hx : RIns w.cell? vx x) (hn : x.args.length ≤ 100000) (ho : x.op = 18) :
    Calls Tryz.prog 37 #[v, vx] w (UsPost w (usesOf F x)) := by
  obtain ⟨mo, pa, ar, vb, vr, vl', vk, vt, Ab, At, nb, cb, nt, ct, rfl, rfl, rfl, m1, m2, ⟨Ar, kr, rfl, hr1, hr2, hr3⟩, ⟨Al, kl, rfl, h1, h2, hL⟩, ⟨Ak, kk, rfl, hk1, hk2, hk3⟩⟩ := id hF
  obtain ⟨va, vy, rfl, ⟨Aa, ka, rfl, ha1, ha2, ha3⟩, ⟨Ay, ky, rfl, hy1, hy2, hy3⟩⟩ := id hx
  clear hr3 hk3 hL hy3
  have HF := Lib.hid (fun c (hc : Le w.cell? c) => hF.mono hc)
  have HA : Hid (∀ c, Le w.cell? c → RInts c (.slice Aa x.args.length ka) x.args) := fun c hc => ⟨Aa, ka, rfl, ha1, ha2, ha3.mono monoInt hc⟩
  clear hF hx ha3
  have HU : Hid (usesOf F x = ⟨[], [x.a], [], [], []⟩) := by
    show usesOf F x = _
    simp [usesOf, ho]
  all_goals
    rw [ho]
    clear ho
    go_enter Tryz.func37, Tryz.ntmps37
    go_wp2_with fail
    rw [HU.out]
    refine bodyPost_ret (v := ?v) ?h rfl ?r
    case h =>
      simp [results, Tryz.results37, go_sem] <;> rfl
    case r =>
      refine ⟨⟨_, rfl, _, _, _, _, _, rfl, ?_, ?_, ?_, ?_, ?_⟩, ?_⟩
      all_goals (try dsimp only)
      all_goals first
        | exact RSl.nil _ _ _
        | exact rints_box1 (Bx.at0 _ _ _ (by simp))
        | exact rints_box2 (Bx.at0 _ _ _ (by simp))
        | exact rints_box1 (Bx.alloc (Bx.at0 _ _ _ (by simp)) _)
        | exact rints_box2 (Bx.alloc (Bx.at0 _ _ _ (by simp)) _)
        | exact HA.out _ (Bl.le (by repeat (first | exact Below.refl _ _ | apply Bl.alloc)))
        | (repeat (first | exact Below.refl _ _ | apply Bl.alloc))
set_option maxHeartbeats 4000000 in
set_option maxRecDepth 100000 in
theorem uses_g (v vx : Value) (F : Fn) (x : Ins) (w : World) (hF : RFn w.cell? v F) (hx : RIns w.cell? vx x) (hn : x.args.length ≤ 100000) (ho : x.op = 21) :
    Calls Tryz.prog 37 #[v, vx] w (UsPost w (usesOf F x)) := by
  obtain ⟨mo, pa, ar, vb, vr, vl', vk, vt, Ab, At, nb, cb, nt, ct, rfl, rfl, rfl, m1, m2, ⟨Ar, kr, rfl, hr1, hr2, hr3⟩, ⟨Al, kl, rfl, h1, h2, hL⟩, ⟨Ak, kk, rfl, hk1, hk2, hk3⟩⟩ := id hF
  obtain ⟨va, vy, rfl, ⟨Aa, ka, rfl, ha1, ha2, ha3⟩, ⟨Ay, ky, rfl, hy1, hy2, hy3⟩⟩ := id hx
  clear hr3 hk3 hL hy3
  have HF := Lib.hid (fun c (hc : Le w.cell? c) => hF.mono hc)
  have HA : Hid (∀ c, Le w.cell? c → RInts c (.slice Aa x.args.length ka) x.args) := fun c hc => ⟨Aa, ka, rfl, ha1, ha2, ha3.mono monoInt hc⟩
  clear hF hx ha3
  have HU : Hid (usesOf F x = ⟨[x.a], [], [], [], []⟩) := by
    show usesOf F x = _
    simp [usesOf, ho]
  all_goals
    rw [ho]
    clear ho
    go_enter Tryz.func37, Tryz.ntmps37
    go_wp2_with fail
    rw [HU.out]
    refine bodyPost_ret (v := ?v) ?h rfl ?r
    case h =>
      simp [results, Tryz.results37, go_sem] <;> rfl
    case r =>
      refine ⟨⟨_, rfl, _, _, _, _, _, rfl, ?_, ?_, ?_, ?_, ?_⟩, ?_⟩
      all_goals (try dsimp only)
      all_goals first
        | exact RSl.nil _ _ _
        | exact rints_box1 (Bx.at0 _ _ _ (by simp))
        | exact rints_box2 (Bx.at0 _ _ _ (by simp))
        | exact rints_box1 (Bx.alloc (Bx.at0 _ _ _ (by simp)) _)
        | exact rints_box2 (Bx.alloc (Bx.at0 _ _ _ (by simp)) _)
        | exact HA.out _ (Bl.le (by repeat (first | exact Below.refl _ _ | apply Bl.alloc)))
        | (repeat (first | exact Below.refl _ _ | apply Bl.alloc))
set_option maxHeartbeats 4000000 in
set_option maxRecDepth 100000 in
theorem uses_h (v vx : Value) (F : Fn) (x : Ins) (w : World) (hF : RFn w.cell? v F) (hx : RIns w.cell? vx x) (hn : x.args.length ≤ 100000) (ho : x.op = 28) :
    Calls Tryz.prog 37 #[v, vx] w (UsPost w (usesOf F x)) := by
  obtain ⟨mo, pa, ar, vb, vr, vl', vk, vt, Ab, At, nb, cb, nt, ct, rfl, rfl, rfl, m1, m2, ⟨Ar, kr, rfl, hr1, hr2, hr3⟩, ⟨Al, kl, rfl, h1, h2, hL⟩, ⟨Ak, kk, rfl, hk1, hk2, hk3⟩⟩ := id hF
  obtain ⟨va, vy, rfl, ⟨Aa, ka, rfl, ha1, ha2, ha3⟩, ⟨Ay, ky, rfl, hy1, hy2, hy3⟩⟩ := id hx
  clear hr3 hk3 hL hy3
  have HF := Lib.hid (fun c (hc : Le w.cell? c) => hF.mono hc)
  have HA : Hid (∀ c, Le w.cell? c → RInts c (.slice Aa x.args.length ka) x.args) := fun c hc => ⟨Aa, ka, rfl, ha1, ha2, ha3.mono monoInt hc⟩
  clear hF hx ha3
  have HU : Hid (usesOf F x = ⟨[], [], [], [], [x.b]⟩) := by
    show usesOf F x = _
    simp [usesOf, ho]
  all_goals
    rw [ho]
    clear ho
    go_enter Tryz.func37, Tryz.ntmps37
    go_wp2_with fail
    rw [HU.out]
    refine bodyPost_ret (v := ?v) ?h rfl ?r
    case h =>
      simp [results, Tryz.results37, go_sem] <;> rfl
    case r =>
      refine ⟨⟨_, rfl, _, _, _, _, _, rfl, ?_, ?_, ?_, ?_, ?_⟩, ?_⟩
      all_goals (try dsimp only)
      all_goals first
        | exact RSl.nil _ _ _
        | exact rints_box1 (Bx.at0 _ _ _ (by simp))
        | exact rints_box2 (Bx.at0 _ _ _ (by simp))
        | exact rints_box1 (Bx.alloc (Bx.at0 _ _ _ (by simp)) _)
        | exact rints_box2 (Bx.alloc (Bx.at0 _ _ _ (by simp)) _)
        | exact HA.out _ (Bl.le (by repeat (first | exact Below.refl _ _ | apply Bl.alloc)))
        | (repeat (first | exact Below.refl _ _ | apply Bl.alloc))
set_option maxHeartbeats 4000000 in
set_option maxRecDepth 100000 in
theorem uses_i (v vx : Value) (F : Fn) (x : Ins) (w : World) (hF : RFn w.cell? v F) (hx : RIns w.cell? vx x) (hn : x.args.length ≤ 100000) (ho : x.op = 29) :
    Calls Tryz.prog 37 #[v, vx] w (UsPost w (usesOf F x)) := by
  obtain ⟨mo, pa, ar, vb, vr, vl', vk, vt, Ab, At, nb, cb, nt, ct, rfl, rfl, rfl, m1, m2, ⟨Ar, kr, rfl, hr1, hr2, hr3⟩, ⟨Al, kl, rfl, h1, h2, hL⟩, ⟨Ak, kk, rfl, hk1, hk2, hk3⟩⟩ := id hF
  obtain ⟨va, vy, rfl, ⟨Aa, ka, rfl, ha1, ha2, ha3⟩, ⟨Ay, ky, rfl, hy1, hy2, hy3⟩⟩ := id hx
  clear hr3 hk3 hL hy3
  have HF := Lib.hid (fun c (hc : Le w.cell? c) => hF.mono hc)
  have HA : Hid (∀ c, Le w.cell? c → RInts c (.slice Aa x.args.length ka) x.args) := fun c hc => ⟨Aa, ka, rfl, ha1, ha2, ha3.mono monoInt hc⟩
  clear hF hx ha3
  have HU : Hid (usesOf F x = ⟨[x.b], [x.a], [], [], []⟩) := by
    show usesOf F x = _
    simp [usesOf, ho]
  all_goals
    rw [ho]
    clear ho
    go_enter Tryz.func37, Tryz.ntmps37
    go_wp2_with fail
    rw [HU.out]
    refine bodyPost_ret (v := ?v) ?h rfl ?r
    case h =>
      simp [results, Tryz.results37, go_sem] <;> rfl
    case r =>
      refine ⟨⟨_, rfl, _, _, _, _, _, rfl, ?_, ?_, ?_, ?_, ?_⟩, ?_⟩
      all_goals (try dsimp only)
      all_goals first
        | exact RSl.nil _ _ _
        | exact rints_box1 (Bx.at0 _ _ _ (by simp))
        | exact rints_box2 (Bx.at0 _ _ _ (by simp))
        | exact rints_box1 (Bx.alloc (Bx.at0 _ _ _ (by simp)) _)
        | exact rints_box2 (Bx.alloc (Bx.at0 _ _ _ (by simp)) _)
        | exact HA.out _ (Bl.le (by repeat (first | exact Below.refl _ _ | apply Bl.alloc)))
        | (repeat (first | exact Below.refl _ _ | apply Bl.alloc))
end Go.Proofs.YtdkjkgokllmkmaaGreatDoor.Lv
