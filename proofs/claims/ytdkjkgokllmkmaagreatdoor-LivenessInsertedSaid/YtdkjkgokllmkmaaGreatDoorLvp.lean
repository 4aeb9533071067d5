/- Walks: graph's tables: which function tells the uses of an instruction. (printed by genp.py) -/
import Derived.Test.YtdkjkgokllmkmaaGreatDoorLvo
import Derived.Laws.EntriesVeiled
namespace Go.Proofs.YtdkjkgokllmkmaaGreatDoor.Lv
open Go.RowKit
set_option linter.unusedVariables false
set_option linter.unusedSimpArgs false
abbrev clo (n : Nat) : Value := .func (.func n) #[] #[]
def cloO : Option Nat → Value
  | some n => clo n
  | none => .nilFunc
def RPost (w : World) (ok : Bool) (v5 : Value) (e : Ending) (w' : World) : Prop :=
  (∃ b0 b1 b2 b3 v4, e = .returned (.tuple #[.agg #[.bool b0, .bool b1, .bool b2, .bool b3, v4, v5], .bool ok]) ∧ bif ok then ∃ fn a b, v4 = .func fn a b else v4 = .nilFunc) ∧ Below w.heap.size w w'
theorem gtypes_any (n : Nat) (w : World) : Calls Tryz.prog 72 #[.func (.func n) #[] #[]] w fun e w' => (∃ fn a b, e = .returned (.func fn a b)) ∧ Below w.heap.size w w' := by
  go_enter Tryz.func72, Tryz.ntmps72
  go_wp2
  go_ret
  exact ⟨⟨_, _, _, rfl⟩, (Below.refl _ _).alloc (Nat.le_refl _) _⟩
theorem gclo67 (w : World) : Calls Tryz.prog 67 #[] w fun e w' => e = .returned (.func (.func 96) #[] #[]) ∧ w' = w := by
  go_enter Tryz.func67, Tryz.ntmps67
  go_wp2
  go_ret
  exact ⟨rfl, rfl⟩
theorem gclo71 (w : World) : Calls Tryz.prog 71 #[] w fun e w' => e = .returned (.func (.func 98) #[] #[]) ∧ w' = w := by
  go_enter Tryz.func71, Tryz.ntmps71
  go_wp2
  go_ret
  exact ⟨rfl, rfl⟩
theorem gclo74 (w : World) : Calls Tryz.prog 74 #[] w fun e w' => e = .returned (.func (.func 100) #[] #[]) ∧ w' = w := by
  go_enter Tryz.func74, Tryz.ntmps74
  go_wp2
  go_ret
  exact ⟨rfl, rfl⟩
theorem gclo76 (w : World) : Calls Tryz.prog 76 #[] w fun e w' => e = .returned (.func (.func 101) #[] #[]) ∧ w' = w := by
  go_enter Tryz.func76, Tryz.ntmps76
  go_wp2
  go_ret
  exact ⟨rfl, rfl⟩
theorem gclo86 (w : World) : Calls Tryz.prog 86 #[] w fun e w' => e = .returned (.func (.func 107) #[] #[]) ∧ w' = w := by
  go_enter Tryz.func86, Tryz.ntmps86
  go_wp2
  go_ret
  exact ⟨rfl, rfl⟩
theorem gclo111 (w : World) : Calls Tryz.prog 111 #[] w fun e w' => e = .returned (.func (.func 143) #[] #[]) ∧ w' = w := by
  go_enter Tryz.func111, Tryz.ntmps111
  go_wp2
  go_ret
  exact ⟨rfl, rfl⟩
set_option maxHeartbeats 4000000 in
set_option maxRecDepth 100000 in
theorem rule1 (w : World) : Calls Tryz.prog 63 #[.int .i64 1] w (RPost w true (clo 96)) := by
  go_enter Tryz.func63, Tryz.ntmps63
  go_wp2_with fail
  refine (gclo67 _).mono ?_
  rintro e wx ⟨rfl, rfl⟩
  go_wp2_with fail
  refine bodyPost_ret (v := ?v0) ?h0 rfl ?r0
  case h0 => simp [results, Tryz.results63, go_sem] <;> rfl
  case r0 =>
    refine ⟨⟨_, _, _, _, _, rfl, _, _, _, rfl⟩, ?_⟩
    repeat (first | exact Below.refl _ _ | apply Bl.alloc)
set_option maxHeartbeats 4000000 in
set_option maxRecDepth 100000 in
theorem rule2 (w : World) : Calls Tryz.prog 63 #[.int .i64 2] w (RPost w true (clo 98)) := by
  go_enter Tryz.func63, Tryz.ntmps63
  go_wp2_with fail
  refine (gclo71 _).mono ?_
  rintro e wx ⟨rfl, rfl⟩
  go_wp2_with fail
  refine (gtypes_any _ _).mono ?_
  rintro e w1 ⟨⟨fn4, a4, b4, rfl⟩, hb1⟩
  have bR := Bx.below (w' := w1) (b := w.heap.size) (t := 107) (cs := #[.bool false, .bool false, .bool false, .bool false, .nilFunc, .nilFunc]) (Bx.at0 _ _ _ rfl) hb1
  have HB1 := Lib.hid (Bl.call (w := w) (Bl.alloc (Below.refl _ _) _) hb1)
  clear hb1
  have cR := bR.cell
  have fR := bR.frozen
  have lR := bR.lt
  clear bR
  go_wp2_with fail
  refine bodyPost_ret (v := ?v0) ?h0 rfl ?r0
  case h0 => simp [results, Tryz.results63, go_sem, cR, fR] <;> rfl
  case r0 =>
    refine ⟨⟨_, _, _, _, _, rfl, _, _, _, rfl⟩, ?_⟩
    exact Bl.chg HB1.out (D := [w.heap.size]) (by repeat (first | refine Chg.put ?_ (.inl (by simp)) _ | exact Chg.refl _ _)) (by simp)
set_option maxHeartbeats 4000000 in
set_option maxRecDepth 100000 in
theorem rule3 (w : World) : Calls Tryz.prog 63 #[.int .i64 3] w (RPost w true (clo 98)) := by
  go_enter Tryz.func63, Tryz.ntmps63
  go_wp2_with fail
  refine (gclo71 _).mono ?_
  rintro e wx ⟨rfl, rfl⟩
  go_wp2_with fail
  refine (gtypes_any _ _).mono ?_
  rintro e w1 ⟨⟨fn4, a4, b4, rfl⟩, hb1⟩
  have bR := Bx.below (w' := w1) (b := w.heap.size) (t := 107) (cs := #[.bool false, .bool false, .bool false, .bool false, .nilFunc, .nilFunc]) (Bx.at0 _ _ _ rfl) hb1
  have HB1 := Lib.hid (Bl.call (w := w) (Bl.alloc (Below.refl _ _) _) hb1)
  clear hb1
  have cR := bR.cell
  have fR := bR.frozen
  have lR := bR.lt
  clear bR
  go_wp2_with fail
  refine bodyPost_ret (v := ?v0) ?h0 rfl ?r0
  case h0 => simp [results, Tryz.results63, go_sem, cR, fR] <;> rfl
  case r0 =>
    refine ⟨⟨_, _, _, _, _, rfl, _, _, _, rfl⟩, ?_⟩
    exact Bl.chg HB1.out (D := [w.heap.size]) (by repeat (first | refine Chg.put ?_ (.inl (by simp)) _ | exact Chg.refl _ _)) (by simp)
set_option maxHeartbeats 4000000 in
set_option maxRecDepth 100000 in
theorem rule4 (w : World) : Calls Tryz.prog 63 #[.int .i64 4] w (RPost w true (clo 98)) := by
  go_enter Tryz.func63, Tryz.ntmps63
  go_wp2_with fail
  refine (gclo71 _).mono ?_
  rintro e wx ⟨rfl, rfl⟩
  go_wp2_with fail
  refine (gtypes_any _ _).mono ?_
  rintro e w1 ⟨⟨fn4, a4, b4, rfl⟩, hb1⟩
  have bR := Bx.below (w' := w1) (b := w.heap.size) (t := 107) (cs := #[.bool false, .bool false, .bool false, .bool false, .nilFunc, .nilFunc]) (Bx.at0 _ _ _ rfl) hb1
  have HB1 := Lib.hid (Bl.call (w := w) (Bl.alloc (Below.refl _ _) _) hb1)
  clear hb1
  have cR := bR.cell
  have fR := bR.frozen
  have lR := bR.lt
  clear bR
  go_wp2_with fail
  refine bodyPost_ret (v := ?v0) ?h0 rfl ?r0
  case h0 => simp [results, Tryz.results63, go_sem, cR, fR] <;> rfl
  case r0 =>
    refine ⟨⟨_, _, _, _, _, rfl, _, _, _, rfl⟩, ?_⟩
    exact Bl.chg HB1.out (D := [w.heap.size]) (by repeat (first | refine Chg.put ?_ (.inl (by simp)) _ | exact Chg.refl _ _)) (by simp)
set_option maxHeartbeats 4000000 in
set_option maxRecDepth 100000 in
theorem rule5 (w : World) : Calls Tryz.prog 63 #[.int .i64 5] w (RPost w true (clo 98)) := by
  go_enter Tryz.func63, Tryz.ntmps63
  go_wp2_with fail
  refine (gclo71 _).mono ?_
  rintro e wx ⟨rfl, rfl⟩
  go_wp2_with fail
  refine (gtypes_any _ _).mono ?_
  rintro e w1 ⟨⟨fn4, a4, b4, rfl⟩, hb1⟩
  have bR := Bx.below (w' := w1) (b := w.heap.size) (t := 107) (cs := #[.bool false, .bool false, .bool false, .bool false, .nilFunc, .nilFunc]) (Bx.at0 _ _ _ rfl) hb1
  have HB1 := Lib.hid (Bl.call (w := w) (Bl.alloc (Below.refl _ _) _) hb1)
  clear hb1
  have cR := bR.cell
  have fR := bR.frozen
  have lR := bR.lt
  clear bR
  go_wp2_with fail
  refine bodyPost_ret (v := ?v0) ?h0 rfl ?r0
  case h0 => simp [results, Tryz.results63, go_sem, cR, fR] <;> rfl
  case r0 =>
    refine ⟨⟨_, _, _, _, _, rfl, _, _, _, rfl⟩, ?_⟩
    exact Bl.chg HB1.out (D := [w.heap.size]) (by repeat (first | refine Chg.put ?_ (.inl (by simp)) _ | exact Chg.refl _ _)) (by simp)
set_option maxHeartbeats 4000000 in
set_option maxRecDepth 100000 in
theorem rule6 (w : World) : Calls Tryz.prog 63 #[.int .i64 6] w (RPost w true (clo 98)) := by
  go_enter Tryz.func63, Tryz.ntmps63
  go_wp2_with fail
  refine (gclo71 _).mono ?_
  rintro e wx ⟨rfl, rfl⟩
  go_wp2_with fail
  refine (gtypes_any _ _).mono ?_
  rintro e w1 ⟨⟨fn4, a4, b4, rfl⟩, hb1⟩
  have bR := Bx.below (w' := w1) (b := w.heap.size) (t := 107) (cs := #[.bool false, .bool false, .bool false, .bool false, .nilFunc, .nilFunc]) (Bx.at0 _ _ _ rfl) hb1
  have HB1 := Lib.hid (Bl.call (w := w) (Bl.alloc (Below.refl _ _) _) hb1)
  clear hb1
  have cR := bR.cell
  have fR := bR.frozen
  have lR := bR.lt
  clear bR
  go_wp2_with fail
  refine bodyPost_ret (v := ?v0) ?h0 rfl ?r0
  case h0 => simp [results, Tryz.results63, go_sem, cR, fR] <;> rfl
  case r0 =>
    refine ⟨⟨_, _, _, _, _, rfl, _, _, _, rfl⟩, ?_⟩
    exact Bl.chg HB1.out (D := [w.heap.size]) (by repeat (first | refine Chg.put ?_ (.inl (by simp)) _ | exact Chg.refl _ _)) (by simp)
set_option maxHeartbeats 4000000 in
set_option maxRecDepth 100000 in
theorem rule7 (w : World) : Calls Tryz.prog 63 #[.int .i64 7] w (RPost w true (clo 100)) := by
  go_enter Tryz.func63, Tryz.ntmps63
  go_wp2_with fail
  refine (gclo74 _).mono ?_
  rintro e wx ⟨rfl, rfl⟩
  go_wp2_with fail
  refine (gtypes_any _ _).mono ?_
  rintro e w1 ⟨⟨fn4, a4, b4, rfl⟩, hb1⟩
  have bR := Bx.below (w' := w1) (b := w.heap.size) (t := 107) (cs := #[.bool false, .bool false, .bool false, .bool false, .nilFunc, .nilFunc]) (Bx.at0 _ _ _ rfl) hb1
  have HB1 := Lib.hid (Bl.call (w := w) (Bl.alloc (Below.refl _ _) _) hb1)
  clear hb1
  have cR := bR.cell
  have fR := bR.frozen
  have lR := bR.lt
  clear bR
  go_wp2_with fail
  refine bodyPost_ret (v := ?v0) ?h0 rfl ?r0
  case h0 => simp [results, Tryz.results63, go_sem, cR, fR] <;> rfl
  case r0 =>
    refine ⟨⟨_, _, _, _, _, rfl, _, _, _, rfl⟩, ?_⟩
    exact Bl.chg HB1.out (D := [w.heap.size]) (by repeat (first | refine Chg.put ?_ (.inl (by simp)) _ | exact Chg.refl _ _)) (by simp)
set_option maxHeartbeats 4000000 in
set_option maxRecDepth 100000 in
theorem rule8 (w : World) : Calls Tryz.prog 63 #[.int .i64 8] w (RPost w true (clo 101)) := by
  go_enter Tryz.func63, Tryz.ntmps63
  go_wp2_with fail
  refine (gclo76 _).mono ?_
  rintro e wx ⟨rfl, rfl⟩
  go_wp2_with fail
  refine bodyPost_ret (v := ?v0) ?h0 rfl ?r0
  case h0 => simp [results, Tryz.results63, go_sem] <;> rfl
  case r0 =>
    refine ⟨⟨_, _, _, _, _, rfl, _, _, _, rfl⟩, ?_⟩
    repeat (first | exact Below.refl _ _ | apply Bl.alloc)
set_option maxHeartbeats 4000000 in
set_option maxRecDepth 100000 in
theorem rule9 (w : World) : Calls Tryz.prog 63 #[.int .i64 9] w (RPost w true (clo 80)) := by
  go_enter Tryz.func63, Tryz.ntmps63
  go_wp2_with fail
  refine bodyPost_ret (v := ?v0) ?h0 rfl ?r0
  case h0 => simp [results, Tryz.results63, go_sem] <;> rfl
  case r0 =>
    refine ⟨⟨_, _, _, _, _, rfl, _, _, _, rfl⟩, ?_⟩
    repeat (first | exact Below.refl _ _ | apply Bl.alloc)
set_option maxHeartbeats 4000000 in
set_option maxRecDepth 100000 in
theorem rule10 (w : World) : Calls Tryz.prog 63 #[.int .i64 10] w (RPost w true (clo 100)) := by
  go_enter Tryz.func63, Tryz.ntmps63
  go_wp2_with fail
  refine (gclo74 _).mono ?_
  rintro e wx ⟨rfl, rfl⟩
  go_wp2_with fail
  refine (gtypes_any _ _).mono ?_
  rintro e w1 ⟨⟨fn4, a4, b4, rfl⟩, hb1⟩
  have bR := Bx.below (w' := w1) (b := w.heap.size) (t := 107) (cs := #[.bool false, .bool false, .bool false, .bool false, .nilFunc, .nilFunc]) (Bx.at0 _ _ _ rfl) hb1
  have HB1 := Lib.hid (Bl.call (w := w) (Bl.alloc (Below.refl _ _) _) hb1)
  clear hb1
  have cR := bR.cell
  have fR := bR.frozen
  have lR := bR.lt
  clear bR
  go_wp2_with fail
  refine bodyPost_ret (v := ?v0) ?h0 rfl ?r0
  case h0 => simp [results, Tryz.results63, go_sem, cR, fR] <;> rfl
  case r0 =>
    refine ⟨⟨_, _, _, _, _, rfl, _, _, _, rfl⟩, ?_⟩
    exact Bl.chg HB1.out (D := [w.heap.size]) (by repeat (first | refine Chg.put ?_ (.inl (by simp)) _ | exact Chg.refl _ _)) (by simp)
set_option maxHeartbeats 4000000 in
set_option maxRecDepth 100000 in
theorem rule11 (w : World) : Calls Tryz.prog 63 #[.int .i64 11] w (RPost w true (clo 85)) := by
  go_enter Tryz.func63, Tryz.ntmps63
  go_wp2_with fail
  refine (gtypes_any _ _).mono ?_
  rintro e w1 ⟨⟨fn4, a4, b4, rfl⟩, hb1⟩
  have bR := Bx.below (w' := w1) (b := w.heap.size) (t := 107) (cs := #[.bool false, .bool false, .bool false, .bool false, .nilFunc, .nilFunc]) (Bx.at0 _ _ _ rfl) hb1
  have HB1 := Lib.hid (Bl.call (w := w) (Bl.alloc (Below.refl _ _) _) hb1)
  clear hb1
  have cR := bR.cell
  have fR := bR.frozen
  have lR := bR.lt
  clear bR
  go_wp2_with fail
  refine bodyPost_ret (v := ?v0) ?h0 rfl ?r0
  case h0 => simp [results, Tryz.results63, go_sem, cR, fR] <;> rfl
  case r0 =>
    refine ⟨⟨_, _, _, _, _, rfl, _, _, _, rfl⟩, ?_⟩
    exact Bl.chg HB1.out (D := [w.heap.size]) (by repeat (first | refine Chg.put ?_ (.inl (by simp)) _ | exact Chg.refl _ _)) (by simp)
set_option maxHeartbeats 4000000 in
set_option maxRecDepth 100000 in
theorem rule12 (w : World) : Calls Tryz.prog 63 #[.int .i64 12] w (RPost w true (clo 107)) := by
  go_enter Tryz.func63, Tryz.ntmps63
  go_wp2_with fail
  refine (gclo86 _).mono ?_
  rintro e wx ⟨rfl, rfl⟩
  go_wp2_with fail
  refine (gtypes_any _ _).mono ?_
  rintro e w1 ⟨⟨fn4, a4, b4, rfl⟩, hb1⟩
  have bR := Bx.below (w' := w1) (b := w.heap.size) (t := 107) (cs := #[.bool false, .bool false, .bool false, .bool false, .nilFunc, .nilFunc]) (Bx.at0 _ _ _ rfl) hb1
  have HB1 := Lib.hid (Bl.call (w := w) (Bl.alloc (Below.refl _ _) _) hb1)
  clear hb1
  have cR := bR.cell
  have fR := bR.frozen
  have lR := bR.lt
  clear bR
  go_wp2_with fail
  refine bodyPost_ret (v := ?v0) ?h0 rfl ?r0
  case h0 => simp [results, Tryz.results63, go_sem, cR, fR] <;> rfl
  case r0 =>
    refine ⟨⟨_, _, _, _, _, rfl, _, _, _, rfl⟩, ?_⟩
    exact Bl.chg HB1.out (D := [w.heap.size]) (by repeat (first | refine Chg.put ?_ (.inl (by simp)) _ | exact Chg.refl _ _)) (by simp)
set_option maxHeartbeats 4000000 in
set_option maxRecDepth 100000 in
theorem rule13 (w : World) : Calls Tryz.prog 63 #[.int .i64 13] w (RPost w true (clo 107)) := by
  go_enter Tryz.func63, Tryz.ntmps63
  go_wp2_with fail
  refine (gclo86 _).mono ?_
  rintro e wx ⟨rfl, rfl⟩
  go_wp2_with fail
  refine (gtypes_any _ _).mono ?_
  rintro e w1 ⟨⟨fn4, a4, b4, rfl⟩, hb1⟩
  have bR := Bx.below (w' := w1) (b := w.heap.size) (t := 107) (cs := #[.bool false, .bool false, .bool false, .bool false, .nilFunc, .nilFunc]) (Bx.at0 _ _ _ rfl) hb1
  have HB1 := Lib.hid (Bl.call (w := w) (Bl.alloc (Below.refl _ _) _) hb1)
  clear hb1
  have cR := bR.cell
  have fR := bR.frozen
  have lR := bR.lt
  clear bR
  go_wp2_with fail
  refine bodyPost_ret (v := ?v0) ?h0 rfl ?r0
  case h0 => simp [results, Tryz.results63, go_sem, cR, fR] <;> rfl
  case r0 =>
    refine ⟨⟨_, _, _, _, _, rfl, _, _, _, rfl⟩, ?_⟩
    exact Bl.chg HB1.out (D := [w.heap.size]) (by repeat (first | refine Chg.put ?_ (.inl (by simp)) _ | exact Chg.refl _ _)) (by simp)
set_option maxHeartbeats 4000000 in
set_option maxRecDepth 100000 in
theorem rule14 (w : World) : Calls Tryz.prog 63 #[.int .i64 14] w (RPost w true (clo 107)) := by
  go_enter Tryz.func63, Tryz.ntmps63
  go_wp2_with fail
  refine (gclo86 _).mono ?_
  rintro e wx ⟨rfl, rfl⟩
  go_wp2_with fail
  refine (gtypes_any _ _).mono ?_
  rintro e w1 ⟨⟨fn4, a4, b4, rfl⟩, hb1⟩
  have bR := Bx.below (w' := w1) (b := w.heap.size) (t := 107) (cs := #[.bool false, .bool false, .bool false, .bool false, .nilFunc, .nilFunc]) (Bx.at0 _ _ _ rfl) hb1
  have HB1 := Lib.hid (Bl.call (w := w) (Bl.alloc (Below.refl _ _) _) hb1)
  clear hb1
  have cR := bR.cell
  have fR := bR.frozen
  have lR := bR.lt
  clear bR
  go_wp2_with fail
  refine bodyPost_ret (v := ?v0) ?h0 rfl ?r0
  case h0 => simp [results, Tryz.results63, go_sem, cR, fR] <;> rfl
  case r0 =>
    refine ⟨⟨_, _, _, _, _, rfl, _, _, _, rfl⟩, ?_⟩
    exact Bl.chg HB1.out (D := [w.heap.size]) (by repeat (first | refine Chg.put ?_ (.inl (by simp)) _ | exact Chg.refl _ _)) (by simp)
set_option maxHeartbeats 4000000 in
set_option maxRecDepth 100000 in
theorem rule15 (w : World) : Calls Tryz.prog 94 #[.int .i64 15] w (RPost w true (clo 109)) := by
  go_enter Tryz.func94, Tryz.ntmps94
  go_wp2_with fail
  refine bodyPost_ret (v := ?v0) ?h0 rfl ?r0
  case h0 => simp [results, Tryz.results94, go_sem] <;> rfl
  case r0 =>
    refine ⟨⟨_, _, _, _, _, rfl, _, _, _, rfl⟩, ?_⟩
    repeat (first | exact Below.refl _ _ | apply Bl.alloc)
set_option maxHeartbeats 4000000 in
set_option maxRecDepth 100000 in
theorem rule16 (w : World) : Calls Tryz.prog 94 #[.int .i64 16] w (RPost w true (clo 143)) := by
  go_enter Tryz.func94, Tryz.ntmps94
  go_wp2_with fail
  refine (gclo111 _).mono ?_
  rintro e wx ⟨rfl, rfl⟩
  go_wp2_with fail
  refine (gtypes_any _ _).mono ?_
  rintro e w1 ⟨⟨fn4, a4, b4, rfl⟩, hb1⟩
  have bR := Bx.below (w' := w1) (b := w.heap.size) (t := 107) (cs := #[.bool false, .bool false, .bool false, .bool false, .nilFunc, .nilFunc]) (Bx.at0 _ _ _ rfl) hb1
  have HB1 := Lib.hid (Bl.call (w := w) (Bl.alloc (Below.refl _ _) _) hb1)
  clear hb1
  have cR := bR.cell
  have fR := bR.frozen
  have lR := bR.lt
  clear bR
  go_wp2_with fail
  refine bodyPost_ret (v := ?v0) ?h0 rfl ?r0
  case h0 => simp [results, Tryz.results94, go_sem, cR, fR] <;> rfl
  case r0 =>
    refine ⟨⟨_, _, _, _, _, rfl, _, _, _, rfl⟩, ?_⟩
    exact Bl.chg HB1.out (D := [w.heap.size]) (by repeat (first | refine Chg.put ?_ (.inl (by simp)) _ | exact Chg.refl _ _)) (by simp)
set_option maxHeartbeats 4000000 in
set_option maxRecDepth 100000 in
theorem rule17 (w : World) : Calls Tryz.prog 94 #[.int .i64 17] w (RPost w true (clo 114)) := by
  go_enter Tryz.func94, Tryz.ntmps94
  go_wp2_with fail
  refine (gtypes_any _ _).mono ?_
  rintro e w1 ⟨⟨fn4, a4, b4, rfl⟩, hb1⟩
  have bR := Bx.below (w' := w1) (b := w.heap.size) (t := 107) (cs := #[.bool false, .bool false, .bool false, .bool false, .nilFunc, .nilFunc]) (Bx.at0 _ _ _ rfl) hb1
  have HB1 := Lib.hid (Bl.call (w := w) (Bl.alloc (Below.refl _ _) _) hb1)
  clear hb1
  have cR := bR.cell
  have fR := bR.frozen
  have lR := bR.lt
  clear bR
  go_wp2_with fail
  refine bodyPost_ret (v := ?v0) ?h0 rfl ?r0
  case h0 => simp [results, Tryz.results94, go_sem, cR, fR] <;> rfl
  case r0 =>
    refine ⟨⟨_, _, _, _, _, rfl, _, _, _, rfl⟩, ?_⟩
    exact Bl.chg HB1.out (D := [w.heap.size]) (by repeat (first | refine Chg.put ?_ (.inl (by simp)) _ | exact Chg.refl _ _)) (by simp)
set_option maxHeartbeats 4000000 in
set_option maxRecDepth 100000 in
theorem rule18 (w : World) : Calls Tryz.prog 94 #[.int .i64 18] w (RPost w true (clo 117)) := by
  go_enter Tryz.func94, Tryz.ntmps94
  go_wp2_with fail
  refine (gtypes_any _ _).mono ?_
  rintro e w1 ⟨⟨fn4, a4, b4, rfl⟩, hb1⟩
  have bR := Bx.below (w' := w1) (b := w.heap.size) (t := 107) (cs := #[.bool false, .bool false, .bool false, .bool false, .nilFunc, .nilFunc]) (Bx.at0 _ _ _ rfl) hb1
  have HB1 := Lib.hid (Bl.call (w := w) (Bl.alloc (Below.refl _ _) _) hb1)
  clear hb1
  have cR := bR.cell
  have fR := bR.frozen
  have lR := bR.lt
  clear bR
  go_wp2_with fail
  refine bodyPost_ret (v := ?v0) ?h0 rfl ?r0
  case h0 => simp [results, Tryz.results94, go_sem, cR, fR] <;> rfl
  case r0 =>
    refine ⟨⟨_, _, _, _, _, rfl, _, _, _, rfl⟩, ?_⟩
    exact Bl.chg HB1.out (D := [w.heap.size]) (by repeat (first | refine Chg.put ?_ (.inl (by simp)) _ | exact Chg.refl _ _)) (by simp)
set_option maxHeartbeats 4000000 in
set_option maxRecDepth 100000 in
theorem rule19 (w : World) : Calls Tryz.prog 94 #[.int .i64 19] w (RPost w true (clo 101)) := by
  go_enter Tryz.func94, Tryz.ntmps94
  go_wp2_with fail
  refine (gclo76 _).mono ?_
  rintro e wx ⟨rfl, rfl⟩
  go_wp2_with fail
  refine bodyPost_ret (v := ?v0) ?h0 rfl ?r0
  case h0 => simp [results, Tryz.results94, go_sem] <;> rfl
  case r0 =>
    refine ⟨⟨_, _, _, _, _, rfl, _, _, _, rfl⟩, ?_⟩
    repeat (first | exact Below.refl _ _ | apply Bl.alloc)
set_option maxHeartbeats 4000000 in
set_option maxRecDepth 100000 in
theorem rule20 (w : World) : Calls Tryz.prog 94 #[.int .i64 20] w (RPost w true (clo 101)) := by
  go_enter Tryz.func94, Tryz.ntmps94
  go_wp2_with fail
  refine (gclo76 _).mono ?_
  rintro e wx ⟨rfl, rfl⟩
  go_wp2_with fail
  refine bodyPost_ret (v := ?v0) ?h0 rfl ?r0
  case h0 => simp [results, Tryz.results94, go_sem] <;> rfl
  case r0 =>
    refine ⟨⟨_, _, _, _, _, rfl, _, _, _, rfl⟩, ?_⟩
    repeat (first | exact Below.refl _ _ | apply Bl.alloc)
set_option maxHeartbeats 4000000 in
set_option maxRecDepth 100000 in
theorem rule21 (w : World) : Calls Tryz.prog 94 #[.int .i64 21] w (RPost w true (clo 121)) := by
  go_enter Tryz.func94, Tryz.ntmps94
  go_wp2_with fail
  refine (gtypes_any _ _).mono ?_
  rintro e w1 ⟨⟨fn4, a4, b4, rfl⟩, hb1⟩
  have bR := Bx.below (w' := w1) (b := w.heap.size) (t := 107) (cs := #[.bool false, .bool false, .bool false, .bool false, .nilFunc, .nilFunc]) (Bx.at0 _ _ _ rfl) hb1
  have HB1 := Lib.hid (Bl.call (w := w) (Bl.alloc (Below.refl _ _) _) hb1)
  clear hb1
  have cR := bR.cell
  have fR := bR.frozen
  have lR := bR.lt
  clear bR
  go_wp2_with fail
  refine bodyPost_ret (v := ?v0) ?h0 rfl ?r0
  case h0 => simp [results, Tryz.results94, go_sem, cR, fR] <;> rfl
  case r0 =>
    refine ⟨⟨_, _, _, _, _, rfl, _, _, _, rfl⟩, ?_⟩
    exact Bl.chg HB1.out (D := [w.heap.size]) (by repeat (first | refine Chg.put ?_ (.inl (by simp)) _ | exact Chg.refl _ _)) (by simp)
set_option maxHeartbeats 4000000 in
set_option maxRecDepth 100000 in
theorem rule22 (w : World) : Calls Tryz.prog 94 #[.int .i64 22] w (RPost w true (clo 96)) := by
  go_enter Tryz.func94, Tryz.ntmps94
  go_wp2_with fail
  refine (gtypes_any _ _).mono ?_
  rintro e w1 ⟨⟨fn4, a4, b4, rfl⟩, hb1⟩
  have bR := Bx.below (w' := w1) (b := w.heap.size) (t := 107) (cs := #[.bool false, .bool false, .bool false, .bool false, .nilFunc, .nilFunc]) (Bx.at0 _ _ _ rfl) hb1
  have HB1 := Lib.hid (Bl.call (w := w) (Bl.alloc (Below.refl _ _) _) hb1)
  clear hb1
  have cR := bR.cell
  have fR := bR.frozen
  have lR := bR.lt
  clear bR
  go_wp2_with fail
  refine (gclo67 _).mono ?_
  rintro e wx ⟨rfl, rfl⟩
  go_wp2_with fail
  refine bodyPost_ret (v := ?v0) ?h0 rfl ?r0
  case h0 => simp [results, Tryz.results94, go_sem, cR, fR] <;> rfl
  case r0 =>
    refine ⟨⟨_, _, _, _, _, rfl, _, _, _, rfl⟩, ?_⟩
    exact Bl.chg HB1.out (D := [w.heap.size]) (by repeat (first | refine Chg.put ?_ (.inl (by simp)) _ | exact Chg.refl _ _)) (by simp)
set_option maxHeartbeats 4000000 in
set_option maxRecDepth 100000 in
theorem rule23 (w : World) : Calls Tryz.prog 94 #[.int .i64 23] w (RPost w true (clo 124)) := by
  go_enter Tryz.func94, Tryz.ntmps94
  go_wp2_with fail
  refine (gtypes_any _ _).mono ?_
  rintro e w1 ⟨⟨fn4, a4, b4, rfl⟩, hb1⟩
  have bR := Bx.below (w' := w1) (b := w.heap.size) (t := 107) (cs := #[.bool false, .bool false, .bool false, .bool false, .nilFunc, .nilFunc]) (Bx.at0 _ _ _ rfl) hb1
  have HB1 := Lib.hid (Bl.call (w := w) (Bl.alloc (Below.refl _ _) _) hb1)
  clear hb1
  have cR := bR.cell
  have fR := bR.frozen
  have lR := bR.lt
  clear bR
  go_wp2_with fail
  refine bodyPost_ret (v := ?v0) ?h0 rfl ?r0
  case h0 => simp [results, Tryz.results94, go_sem, cR, fR] <;> rfl
  case r0 =>
    refine ⟨⟨_, _, _, _, _, rfl, _, _, _, rfl⟩, ?_⟩
    exact Bl.chg HB1.out (D := [w.heap.size]) (by repeat (first | refine Chg.put ?_ (.inl (by simp)) _ | exact Chg.refl _ _)) (by simp)
set_option maxHeartbeats 4000000 in
set_option maxRecDepth 100000 in
theorem rule24 (w : World) : Calls Tryz.prog 94 #[.int .i64 24] w (RPost w true (clo 96)) := by
  go_enter Tryz.func94, Tryz.ntmps94
  go_wp2_with fail
  refine (gtypes_any _ _).mono ?_
  rintro e w1 ⟨⟨fn4, a4, b4, rfl⟩, hb1⟩
  have bR := Bx.below (w' := w1) (b := w.heap.size) (t := 107) (cs := #[.bool false, .bool false, .bool false, .bool false, .nilFunc, .nilFunc]) (Bx.at0 _ _ _ rfl) hb1
  have HB1 := Lib.hid (Bl.call (w := w) (Bl.alloc (Below.refl _ _) _) hb1)
  clear hb1
  have cR := bR.cell
  have fR := bR.frozen
  have lR := bR.lt
  clear bR
  go_wp2_with fail
  refine (gclo67 _).mono ?_
  rintro e wx ⟨rfl, rfl⟩
  go_wp2_with fail
  refine bodyPost_ret (v := ?v0) ?h0 rfl ?r0
  case h0 => simp [results, Tryz.results94, go_sem, cR, fR] <;> rfl
  case r0 =>
    refine ⟨⟨_, _, _, _, _, rfl, _, _, _, rfl⟩, ?_⟩
    exact Bl.chg HB1.out (D := [w.heap.size]) (by repeat (first | refine Chg.put ?_ (.inl (by simp)) _ | exact Chg.refl _ _)) (by simp)
set_option maxHeartbeats 4000000 in
set_option maxRecDepth 100000 in
theorem rule25 (w : World) : Calls Tryz.prog 94 #[.int .i64 25] w (RPost w true (clo 127)) := by
  go_enter Tryz.func94, Tryz.ntmps94
  go_wp2_with fail
  refine (gtypes_any _ _).mono ?_
  rintro e w1 ⟨⟨fn4, a4, b4, rfl⟩, hb1⟩
  have bR := Bx.below (w' := w1) (b := w.heap.size) (t := 107) (cs := #[.bool false, .bool false, .bool false, .bool false, .nilFunc, .nilFunc]) (Bx.at0 _ _ _ rfl) hb1
  have HB1 := Lib.hid (Bl.call (w := w) (Bl.alloc (Below.refl _ _) _) hb1)
  clear hb1
  have cR := bR.cell
  have fR := bR.frozen
  have lR := bR.lt
  clear bR
  go_wp2_with fail
  refine bodyPost_ret (v := ?v0) ?h0 rfl ?r0
  case h0 => simp [results, Tryz.results94, go_sem, cR, fR] <;> rfl
  case r0 =>
    refine ⟨⟨_, _, _, _, _, rfl, _, _, _, rfl⟩, ?_⟩
    exact Bl.chg HB1.out (D := [w.heap.size]) (by repeat (first | refine Chg.put ?_ (.inl (by simp)) _ | exact Chg.refl _ _)) (by simp)
set_option maxHeartbeats 4000000 in
set_option maxRecDepth 100000 in
theorem rule26 (w : World) : Calls Tryz.prog 94 #[.int .i64 26] w (RPost w true (clo 143)) := by
  go_enter Tryz.func94, Tryz.ntmps94
  go_wp2_with fail
  refine (gtypes_any _ _).mono ?_
  rintro e w1 ⟨⟨fn4, a4, b4, rfl⟩, hb1⟩
  have bR := Bx.below (w' := w1) (b := w.heap.size) (t := 107) (cs := #[.bool false, .bool false, .bool false, .bool false, .nilFunc, .nilFunc]) (Bx.at0 _ _ _ rfl) hb1
  have HB1 := Lib.hid (Bl.call (w := w) (Bl.alloc (Below.refl _ _) _) hb1)
  clear hb1
  have cR := bR.cell
  have fR := bR.frozen
  have lR := bR.lt
  clear bR
  go_wp2_with fail
  refine (gclo111 _).mono ?_
  rintro e wx ⟨rfl, rfl⟩
  go_wp2_with fail
  refine bodyPost_ret (v := ?v0) ?h0 rfl ?r0
  case h0 => simp [results, Tryz.results94, go_sem, cR, fR] <;> rfl
  case r0 =>
    refine ⟨⟨_, _, _, _, _, rfl, _, _, _, rfl⟩, ?_⟩
    exact Bl.chg HB1.out (D := [w.heap.size]) (by repeat (first | refine Chg.put ?_ (.inl (by simp)) _ | exact Chg.refl _ _)) (by simp)
set_option maxHeartbeats 4000000 in
set_option maxRecDepth 100000 in
theorem rule27 (w : World) : Calls Tryz.prog 94 #[.int .i64 27] w (RPost w true (clo 129)) := by
  go_enter Tryz.func94, Tryz.ntmps94
  go_wp2_with fail
  refine bodyPost_ret (v := ?v0) ?h0 rfl ?r0
  case h0 => simp [results, Tryz.results94, go_sem] <;> rfl
  case r0 =>
    refine ⟨⟨_, _, _, _, _, rfl, _, _, _, rfl⟩, ?_⟩
    repeat (first | exact Below.refl _ _ | apply Bl.alloc)
set_option maxHeartbeats 4000000 in
set_option maxRecDepth 100000 in
theorem rule28 (w : World) : Calls Tryz.prog 94 #[.int .i64 28] w (RPost w true (clo 131)) := by
  go_enter Tryz.func94, Tryz.ntmps94
  go_wp2_with fail
  refine bodyPost_ret (v := ?v0) ?h0 rfl ?r0
  case h0 => simp [results, Tryz.results94, go_sem] <;> rfl
  case r0 =>
    refine ⟨⟨_, _, _, _, _, rfl, _, _, _, rfl⟩, ?_⟩
    repeat (first | exact Below.refl _ _ | apply Bl.alloc)
set_option maxHeartbeats 4000000 in
set_option maxRecDepth 100000 in
theorem rule29 (w : World) : Calls Tryz.prog 94 #[.int .i64 29] w (RPost w true (clo 133)) := by
  go_enter Tryz.func94, Tryz.ntmps94
  go_wp2_with fail
  refine (gtypes_any _ _).mono ?_
  rintro e w1 ⟨⟨fn4, a4, b4, rfl⟩, hb1⟩
  have bR := Bx.below (w' := w1) (b := w.heap.size) (t := 107) (cs := #[.bool false, .bool false, .bool false, .bool false, .nilFunc, .nilFunc]) (Bx.at0 _ _ _ rfl) hb1
  have HB1 := Lib.hid (Bl.call (w := w) (Bl.alloc (Below.refl _ _) _) hb1)
  clear hb1
  have cR := bR.cell
  have fR := bR.frozen
  have lR := bR.lt
  clear bR
  go_wp2_with fail
  refine bodyPost_ret (v := ?v0) ?h0 rfl ?r0
  case h0 => simp [results, Tryz.results94, go_sem, cR, fR] <;> rfl
  case r0 =>
    refine ⟨⟨_, _, _, _, _, rfl, _, _, _, rfl⟩, ?_⟩
    exact Bl.chg HB1.out (D := [w.heap.size]) (by repeat (first | refine Chg.put ?_ (.inl (by simp)) _ | exact Chg.refl _ _)) (by simp)
set_option maxHeartbeats 4000000 in
set_option maxRecDepth 100000 in
theorem rule_none (op : Int) (w : World) (ho : ¬ (15 ≤ op ∧ op ≤ 29)) : Calls Tryz.prog 94 #[.int .i64 op] w (RPost w false .nilFunc) := by
  have q15 : (op == 15) = false := by simpa using fun h => ho (by omega)
  have q16 : (op == 16) = false := by simpa using fun h => ho (by omega)
  have q17 : (op == 17) = false := by simpa using fun h => ho (by omega)
  have q18 : (op == 18) = false := by simpa using fun h => ho (by omega)
  have q19 : (op == 19) = false := by simpa using fun h => ho (by omega)
  have q20 : (op == 20) = false := by simpa using fun h => ho (by omega)
  have q21 : (op == 21) = false := by simpa using fun h => ho (by omega)
  have q22 : (op == 22) = false := by simpa using fun h => ho (by omega)
  have q23 : (op == 23) = false := by simpa using fun h => ho (by omega)
  have q24 : (op == 24) = false := by simpa using fun h => ho (by omega)
  have q25 : (op == 25) = false := by simpa using fun h => ho (by omega)
  have q26 : (op == 26) = false := by simpa using fun h => ho (by omega)
  have q27 : (op == 27) = false := by simpa using fun h => ho (by omega)
  have q28 : (op == 28) = false := by simpa using fun h => ho (by omega)
  have q29 : (op == 29) = false := by simpa using fun h => ho (by omega)
  clear ho
  go_enter Tryz.func94, Tryz.ntmps94
  go_wp2_with fail
  refine bodyPost_ret (v := ?v0) ?h0 rfl ?r0
  case h0 => simp [results, Tryz.results94, go_sem] <;> rfl
  case r0 =>
    refine ⟨⟨_, _, _, _, _, rfl, rfl⟩, ?_⟩
    repeat (first | exact Below.refl _ _ | apply Bl.alloc)
set_option maxHeartbeats 4000000 in
set_option maxRecDepth 100000 in
theorem rule_rest (op : Int) (w : World) (n : Option Nat) (ho : ¬ (1 ≤ op ∧ op ≤ 14)) (hm : ∀ w, Calls Tryz.prog 94 #[.int .i64 op] w (RPost w n.isSome (cloO n))) : Calls Tryz.prog 63 #[.int .i64 op] w (RPost w n.isSome (cloO n)) := by
  have q1 : (op == 1) = false := by simpa using fun h => ho (by omega)
  have q2 : (op == 2) = false := by simpa using fun h => ho (by omega)
  have q3 : (op == 3) = false := by simpa using fun h => ho (by omega)
  have q4 : (op == 4) = false := by simpa using fun h => ho (by omega)
  have q5 : (op == 5) = false := by simpa using fun h => ho (by omega)
  have q6 : (op == 6) = false := by simpa using fun h => ho (by omega)
  have q7 : (op == 7) = false := by simpa using fun h => ho (by omega)
  have q8 : (op == 8) = false := by simpa using fun h => ho (by omega)
  have q9 : (op == 9) = false := by simpa using fun h => ho (by omega)
  have q10 : (op == 10) = false := by simpa using fun h => ho (by omega)
  have q11 : (op == 11) = false := by simpa using fun h => ho (by omega)
  have q12 : (op == 12) = false := by simpa using fun h => ho (by omega)
  have q13 : (op == 13) = false := by simpa using fun h => ho (by omega)
  have q14 : (op == 14) = false := by simpa using fun h => ho (by omega)
  clear ho
  have HM := Lib.hid hm
  clear hm
  go_enter Tryz.func63, Tryz.ntmps63
  go_wp2_with fail
  refine (HM.out _).mono ?_
  rintro e w1 ⟨⟨b0, b1, b2, b3, v4, rfl, h4⟩, hb1⟩
  have bR := Bx.below (w' := w1) (b := w.heap.size) (t := 107) (cs := #[.bool false, .bool false, .bool false, .bool false, .nilFunc, .nilFunc]) (Bx.at0 _ _ _ rfl) hb1
  have HB1 := Lib.hid (Bl.call (w := w) (Bl.alloc (Below.refl _ _) _) hb1)
  clear hb1
  have cR := bR.cell
  have fR := bR.frozen
  have lR := bR.lt
  clear bR
  rcases n with _ | n
  · simp only [Option.isSome, cloO, clo]
    obtain rfl : v4 = .nilFunc := h4

    go_wp2_with fail
    refine bodyPost_ret (v := ?v0) ?h0 rfl ?r0
    case h0 => simp [results, Tryz.results63, go_sem, cR, fR] <;> rfl
    case r0 =>
      refine ⟨⟨_, _, _, _, _, rfl, rfl⟩, ?_⟩
      exact Bl.chg HB1.out (D := [w.heap.size]) (by repeat (first | refine Chg.put ?_ (.inl (by simp)) _ | exact Chg.refl _ _)) (by simp)
  · simp only [Option.isSome, cloO, clo]
    obtain ⟨fn4, a4, b4, rfl⟩ := (show ∃ fn a b, v4 = .func fn a b from h4)
    go_wp2_with fail
    refine bodyPost_ret (v := ?v1) ?h1 rfl ?r1
    case h1 => simp [results, Tryz.results63, go_sem, cR, fR] <;> rfl
    case r1 =>
      refine ⟨⟨_, _, _, _, _, rfl, _, _, _, rfl⟩, ?_⟩
      exact Bl.chg HB1.out (D := [w.heap.size]) (by repeat (first | refine Chg.put ?_ (.inl (by simp)) _ | exact Chg.refl _ _)) (by simp)
set_option maxHeartbeats 4000000 in
set_option maxRecDepth 100000 in
theorem guses_some (N : Nat) (U : Us) (v vx : Value) (F : Fn) (x : Ins) (w : World) (hF : RFn w.cell? v F) (hx : RIns w.cell? vx x) (hr : ∀ w, Calls Tryz.prog 63 #[.int .i64 x.op] w (RPost w true (clo N))) (hen : ∀ args w, (callFunc N args).run Tryz.prog w = .ok (.enter N args) w)
    (hc : ∀ v vx w, RFn w.cell? v F → RIns w.cell? vx x → Calls Tryz.prog N #[v, vx] w (UsPost w U)) :
    Calls Tryz.prog 54 #[v, vx] w (UsPost w U) := by
  obtain ⟨mo, pa, ar, vb, vr, vl', vk, vt, Ab, At, nb, cb, nt, ct, rfl, rfl, rfl, m1, m2, ⟨Ar, kr, rfl, hr1, hr2, hr3⟩, ⟨Al, kl, rfl, h1, h2, hL⟩, ⟨Ak, kk, rfl, hk1, hk2, hk3⟩⟩ := id hF
  obtain ⟨va, vy, rfl, ⟨Aa, ka, rfl, ha1, ha2, ha3⟩, ⟨Ay, ky, rfl, hy1, hy2, hy3⟩⟩ := id hx
  clear hr3 hk3 hL hy3 ha3
  have HF := Lib.hid (fun c (hc : Le w.cell? c) => hF.mono hc)
  have HX := Lib.hid (fun c (hc : Le w.cell? c) => hx.mono hc)
  have HR := Lib.hid hr
  have HC := Lib.hid hc
  clear hF hx hr hc
  go_enter Tryz.func54, Tryz.ntmps54
  go_wp2_with fail
  refine (HR.out _).mono ?_
  rintro e w1 ⟨⟨b0, b1, b2, b3, v4, rfl, h4⟩, hb1⟩
  obtain ⟨fn4, a4, b4, rfl⟩ := (show ∃ fn a b, v4 = .func fn a b from h4)
  have bF := Bx.below (w' := w1) (b := w.heap.size) (t := 29) (cs := #[.string F.name, .int .i64 mo, .int .i64 pa, .slice Ab nb cb, .int .i64 ar, .int .i64 F.result.kind, .int .i64 F.result.id, .slice Ar F.result.args.length kr, .slice Al F.locals.length kl, .slice Ak F.blocks.length kk, .slice At nt ct]) (by repeat (first | (refine Bx.at0 _ _ _ ?_; (simp; done)) | apply Bx.alloc)) hb1
  have bX := Bx.below (w' := w1) (b := w.heap.size + 1) (t := 55) (cs := #[.int .i64 x.op, .int .i64 x.dst, .int .i64 x.a, .int .i64 x.b, .int .i64 x.n, .slice Aa x.args.length ka, .slice Ay x.types.length ky]) (by repeat (first | (refine Bx.at0 _ _ _ ?_; (simp; done)) | apply Bx.alloc)) hb1
  have bR := Bx.below (w' := w1) (b := w.heap.size + 1 + 1) (t := 40) (cs := #[.slice none 0 0, .slice none 0 0, .slice none 0 0, .slice none 0 0, .slice none 0 0]) (by repeat (first | (refine Bx.at0 _ _ _ ?_; (simp; done)) | apply Bx.alloc)) hb1
  have HB1 := Lib.hid (Bl.call (w := w) (by repeat (first | apply Bl.alloc | exact Below.refl _ _)) hb1)
  clear hb1
  have cF := bF.cell
  have cX := bX.cell
  have lF := bF.lt
  have lX := bX.lt
  have lR := bR.lt
  go_wp2_with fail
  refine (HC.out _ _ _ (HF.out _ (Bl.le ?b1)) (HX.out _ (Bl.le ?b2))).mono ?_
  case b1 => repeat (first | exact HB1.out | apply Bl.alloc)
  case b2 => repeat (first | exact HB1.out | apply Bl.alloc)
  rintro e w2 ⟨⟨vu, rfl, hu⟩, hb2⟩
  have bR2 := Bx.below (bR.alloc _) hb2
  have RU := Lib.hid (RUs.avoid hu bR2 nil5_no)
  obtain ⟨A0, k0, A1, k1, A2, k2, A3, k3, A4, k4, rfl⟩ := hu.open
  have HB2 := Lib.hid (Bl.call (w := w) (Bl.alloc HB1.out _) hb2)
  clear hb2 hu cF cX lF lX lR bF bX bR HB1
  have cR := bR2.cell
  have fR := bR2.frozen
  have lR := bR2.lt
  clear bR2
  go_wp2_with fail
  refine bodyPost_ret (v := ?v1) ?h1 rfl ?r1
  case h1 =>
    simp [results, Tryz.results54, go_sem, cR, fR] <;> rfl
  case r1 =>
    refine ⟨⟨_, rfl, RU.out.mono (Chg.le' ((Chg.refl [w.heap.size + 1 + 1] w2).put5 (.inl (by simp)) _ _ _ _ _))⟩, ?_⟩
    exact Bl.chg HB2.out (D := [w.heap.size + 2]) (by repeat (first | refine Chg.put ?_ (.inl (by simp)) _ | exact Chg.refl _ w2)) (by simp)
end Go.Proofs.YtdkjkgokllmkmaaGreatDoor.Lv
