/- The laws' head: the chapter's example. -/
import Derived.Test.YtdkjkgokllmkmaaGreatDoorLwo
import Derived.Test.YtdkjkgokllmkmaaGreatDoorLwj
namespace Go.Proofs.YtdkjkgokllmkmaaGreatDoor.Lv
open Go.RowKit
set_option linter.unusedVariables false
set_option linter.unusedSimpArgs false
theorem ex_used1 (p : Nat × Nat) : (at_ exF p).used 1 = false := by
  obtain ⟨b, i⟩ := p
  match b, i with
  | 0, 0 => rfl
  | 0, i + 1 => rfl
  | 1, 0 => rfl
  | 1, i + 1 => rfl
  | 2, i => rfl
  | 3, i => rfl
  | b + 4, i => rfl
theorem ex_no1 (p : Nat × Nat) : ¬ Live exF 1 p := fun h => live_least (fun _ => False) (fun q hq => by
  rcases hq with h1 | ⟨_, _, _, h2⟩
  · rw [ex_used1] at h1
    cases h1
  · exact h2) h
theorem ex_no0 : ¬ Live exF 0 (0, 0) := fun h => live_least (fun p => p ≠ (0, 0)) (fun q hq e => by
  subst e
  rcases hq with h1 | ⟨h1, _⟩
  · exact absurd h1 (by decide)
  · exact absurd h1 (by decide)) h rfl
theorem ex30 : Live exF 0 (3, 0) := .use (by decide)
theorem ex01 : Live exF 0 (0, 1) := .use (by decide)
theorem ex20 : Live exF 0 (2, 0) := .pass (q := (3, 0)) (by decide) (by decide) ex30
theorem ex11 : Live exF 0 (1, 1) := .pass (q := (3, 0)) (by decide) (by decide) ex30
theorem ex10 : Live exF 0 (1, 0) := .pass (q := (1, 1)) (by decide) (by decide) ex11
theorem lT {F : Fn} {p : Nat × Nat} {v : Nat} (h : Live F v p) : liveB F p v = true := liveB_iff.2 h
theorem lF {F : Fn} {p : Nat × Nat} {v : Nat} (h : ¬ Live F v p) : liveB F p v = false := by
  cases e : liveB F p v with
  | false => rfl
  | true => exact absurd (liveB_iff.1 e) h
theorem ex_pts : pts exF = [(0, 0), (0, 1), (1, 0), (1, 1), (2, 0), (3, 0)] := by rfl
def exZero : List Bool := [true, false]
def exNone : List Bool := [false, false]
theorem ex_before : before exF = [exNone, exZero, exZero, exZero, exZero, exZero] := by
  have hl : List.range exF.nl = [0, 1] := rfl
  unfold before
  rw [ex_pts, hl]
  simp only [List.map_cons, List.map_nil, lF ex_no0, lT ex01, lT ex10, lT ex11, lT ex20, lT ex30, lF (ex_no1 _)]
  rfl
theorem ex_after : after exF = [exZero, exZero, exZero, exZero, exZero, exNone] := by
  have hl : List.range exF.nl = [0, 1] := rfl
  have n0 : next exF (0, 0) = [(0, 1)] := rfl
  have n1 : next exF (0, 1) = [(1, 0), (2, 0)] := rfl
  have n2 : next exF (1, 0) = [(1, 1)] := rfl
  have n3 : next exF (1, 1) = [(3, 0)] := rfl
  have n4 : next exF (2, 0) = [(3, 0)] := rfl
  have n5 : next exF (3, 0) = [] := rfl
  unfold after
  rw [ex_pts, hl]
  simp only [List.map_cons, List.map_nil, afterB, n0, n1, n2, n3, n4, n5, List.any_cons, List.any_nil, lT ex01, lT ex10, lT ex11, lT ex20, lT ex30, lF (ex_no1 _), Bool.or_false, Bool.or_self, Bool.false_or]
  rfl
theorem ex_szd : Szd exF := by
  refine ⟨by decide, by decide, fun B hB => ?_, fun B hB => ?_, fun B hB x hx => ?_⟩
  all_goals simp only [exF, List.mem_cons, List.not_mem_nil, or_false] at hB
  all_goals rcases hB with rfl | rfl | rfl | rfl
  all_goals first | decide | skip
  all_goals simp [exB0, exB1, exB2, exB3, exI, exJ] at hx
  all_goals subst hx; decide
def zeroF : Fn := ⟨ByteArray.empty, 0, 0, [], 0, .mk 0 0 [], [], [], []⟩
theorem zero_before : before zeroF = [] := rfl
theorem zero_szd : Szd zeroF := ⟨by decide, by decide, fun B hB => by simp [zeroF] at hB, fun B hB => by simp [zeroF] at hB, fun B hB => by simp [zeroF] at hB⟩
theorem zero_rfn (c : Lk) : RFn c (.agg #[.string ByteArray.empty, .int .i64 0, .int .i64 0, .slice none 0 0, .int .i64 0, .int .i64 0, .int .i64 0, .slice none 0 0, .slice none 0 0, .slice none 0 0, .slice none 0 0]) zeroF :=
  ⟨0, 0, 0, _, _, _, _, _, none, none, 0, 0, 0, 0, rfl, rfl, rfl, by simp, by simp, RSl.nil _ _ _, RSl.nil _ _ _, RSl.nil _ _ _⟩
/-- A list of booleans that lies in a block. -/
theorem rbools_box {w : World} {b : Nat} {xs : List Bool} {A : Array Value} (h : Bx w b 4 A) (hA : A = (bools xs).toArray) (hm : xs.length ≤ maxLen) : RBools w.cell? (.slice (some ⟨b, 0, none⟩) xs.length xs.length) xs := by
  refine ⟨_, _, rfl, Nat.le_refl _, hm, fun j x hj => ⟨⟨b, 0, none⟩, [.bool x], rfl, rfl, rfl, fun i u hu => ?_⟩⟩
  have hi : i = 0 := by have := (List.getElem?_eq_some_iff.1 hu).1; simp at this; exact this
  subst hi
  obtain rfl : Value.bool x = u := by simpa using hu
  rw [Addr.add_lit, show 0 + (j * 1 + 0) = j by omega, h.cell, hA]
  simp [bools, hj]
theorem rsets_new (w : World) (vals : List Value) (xss : List (List Bool)) {n : Nat} (hl : vals.length = xss.length) (hm : xss.length ≤ maxLen) (h : ∀ (j : Nat) (x : List Bool), xss[j]? = some x → ∃ u, vals[j]? = some u ∧ RBools w.cell? u x) (hn : n = xss.length := by rfl) :
    RSets (w.alloc (.cells vals.toArray 38)).cell? (.slice (some ⟨w.heap.size, 0, none⟩) n n) xss := by
  subst hn
  refine ⟨_, _, rfl, Nat.le_refl _, hm, fun j x hj => ?_⟩
  obtain ⟨u, hu, hr⟩ := h j x hj
  refine ⟨⟨w.heap.size, 0, none⟩, [u], rfl, rfl, ⟨u, rfl, hr.mono monoBool (Bl.le (Bl.alloc (Below.refl _ _) _))⟩, fun i q hq => ?_⟩
  have hi : i = 0 := by have := (List.getElem?_eq_some_iff.1 hq).1; simp at this; exact this
  subst hi
  obtain rfl : u = q := by simpa using hq
  rw [Addr.add_lit, show 0 + (j * 1 + 0) = j by omega, (Bx.new w 38 vals.toArray).cell]
  simpa using hu
set_option maxHeartbeats 4000000 in
set_option maxRecDepth 100000 in
theorem head_any (w : World) : Calls Tryz.prog 9 #[] w fun e w' => e = .returned (.bool true) ∧ Below w.heap.size w w' := by
  go_enter Tryz.func9, Tryz.ntmps9
  go_wp2_with fail
  obtain ⟨bz, hbz⟩ : ∃ bz, bz = w.heap.size := ⟨_, rfl⟩
  obtain ⟨bn, hbn⟩ : ∃ bn, bn = w.heap.size + 1 := ⟨_, rfl⟩
  rw [← hbn, ← hbz]
  generalize hW : World.alloc _ _ = W
  have HB0 : Hid (Below w.heap.size w W) := by rw [← hW]; exact Bl.alloc (Bl.alloc (Below.refl _ _) _) _
  have HZ : Hid (Bx W bz 4 #[.bool true, .bool false]) := by
    show Bx _ _ _ _
    rw [← hW]
    exact (Bx.at0 _ _ _ hbz).alloc _
  have HN : Hid (Bx W bn 4 #[.bool false, .bool false]) := by
    show Bx _ _ _ _
    rw [← hW]
    exact Bx.at0 _ _ _ (by rw [hbn]; simp)
  clear hW hbz hbn
  refine (example_any W).mono ?_
  rintro e w1 ⟨⟨v1, rfl, hv1⟩, hb1⟩
  have HV1 := Lib.hid hv1
  have HB1 := Lib.hid hb1
  clear hv1 hb1
  go_wp2_with fail
  refine (before_any v1 exF w1 HV1.out ex_szd).mono ?_
  rintro e w2 ⟨⟨vb, rfl, hvb⟩, hb2⟩
  have HVB := Lib.hid hvb
  have HB2 := Lib.hid (Bl.call HB1.out hb2)
  clear hvb hb2 HB1 HV1
  go_wp2_with fail
  refine (example_any w2).mono ?_
  rintro e w3 ⟨⟨v3, rfl, hv3⟩, hb3⟩
  have HV3 := Lib.hid hv3
  have HB3 := Lib.hid hb3
  clear hv3 hb3
  go_wp2_with fail
  refine (after_any v3 exF w3 HV3.out ex_szd).mono ?_
  rintro e w4 ⟨⟨va, rfl, hva⟩, hb4⟩
  have HVA := Lib.hid hva
  have HB4 := Lib.hid (Bl.call HB3.out hb4)
  clear hva hb4 HB3 HV3
  go_wp2_with fail
  refine (example_any w4).mono ?_
  rintro e w5 ⟨⟨v5, rfl, hv5⟩, hb5⟩
  have HV5 := Lib.hid hv5
  have HB5 := Lib.hid hb5
  clear hv5 hb5
  go_wp2_with fail
  refine (gpoints_any v5 exF w5 HV5.out ex_szd).mono ?_
  rintro e w6 ⟨⟨vp, rfl, hvp⟩, hb6⟩
  have HB6 := Lib.hid (Bl.call HB5.out hb6)
  obtain ⟨Ap, kp, rfl, _⟩ := hvp
  rw [ex_pts]
  simp only [List.length_cons, List.length_nil, Nat.zero_add, Nat.reduceAdd]
  clear hb6 HB5 HV5
  have HBW6 := Lib.hid (Bl.call (Bl.call HB2.out HB4.out) HB6.out)
  have HBB6 := Lib.hid (Bl.call HB4.out HB6.out)
  go_wp2_with fail
  have hz6 := rbools_box (xs := exZero) ((HZ.out.below HBW6.out)) rfl (by simp [exZero, maxLen])
  have hn6 := rbools_box (xs := exNone) ((HN.out.below HBW6.out)) rfl (by simp [exNone, maxLen])
  have HL1 := Lib.hid (rsets_new w6 [.slice (some ⟨bn, 0, none⟩) 2 2, .slice (some ⟨bz, 0, none⟩) 2 2, .slice (some ⟨bz, 0, none⟩) 2 2, .slice (some ⟨bz, 0, none⟩) 2 2, .slice (some ⟨bz, 0, none⟩) 2 2, .slice (some ⟨bz, 0, none⟩) 2 2] [exNone, exZero, exZero, exZero, exZero, exZero] rfl (by simp [maxLen]) (fun j x hj => by
    match j, hj with
    | 0, hj => obtain rfl : exNone = x := by simpa using hj
               exact ⟨_, rfl, hn6⟩
    | 1, hj => obtain rfl : exZero = x := by simpa using hj
               exact ⟨_, rfl, hz6⟩
    | 2, hj => obtain rfl : exZero = x := by simpa using hj
               exact ⟨_, rfl, hz6⟩
    | 3, hj => obtain rfl : exZero = x := by simpa using hj
               exact ⟨_, rfl, hz6⟩
    | 4, hj => obtain rfl : exZero = x := by simpa using hj
               exact ⟨_, rfl, hz6⟩
    | 5, hj => obtain rfl : exZero = x := by simpa using hj
               exact ⟨_, rfl, hz6⟩))
  clear hz6 hn6
  refine (sameall_any vb _ (before exF) [exNone, exZero, exZero, exZero, exZero, exZero] _ (HVB.out.mono monoSets (Bl.le (Bl.alloc HBB6.out _))) HL1.out).mono ?_
  rintro e w7 ⟨rfl, hb7⟩
  rw [decide_eq_true ex_before]
  have HBW7 := Lib.hid (Bl.call (Bl.alloc HBW6.out _) hb7)
  have HBA7 := Lib.hid (Bl.call (Bl.alloc HB6.out _) hb7)
  clear hb7 HL1 HVB HBB6 HBW6 HB6
  go_wp2_with fail
  have hz7 := rbools_box (xs := exZero) ((HZ.out.below HBW7.out)) rfl (by simp [exZero, maxLen])
  have hn7 := rbools_box (xs := exNone) ((HN.out.below HBW7.out)) rfl (by simp [exNone, maxLen])
  have HL2 := Lib.hid (rsets_new w7 [.slice (some ⟨bz, 0, none⟩) 2 2, .slice (some ⟨bz, 0, none⟩) 2 2, .slice (some ⟨bz, 0, none⟩) 2 2, .slice (some ⟨bz, 0, none⟩) 2 2, .slice (some ⟨bz, 0, none⟩) 2 2, .slice (some ⟨bn, 0, none⟩) 2 2] [exZero, exZero, exZero, exZero, exZero, exNone] rfl (by simp [maxLen]) (fun j x hj => by
    match j, hj with
    | 0, hj => obtain rfl : exZero = x := by simpa using hj
               exact ⟨_, rfl, hz7⟩
    | 1, hj => obtain rfl : exZero = x := by simpa using hj
               exact ⟨_, rfl, hz7⟩
    | 2, hj => obtain rfl : exZero = x := by simpa using hj
               exact ⟨_, rfl, hz7⟩
    | 3, hj => obtain rfl : exZero = x := by simpa using hj
               exact ⟨_, rfl, hz7⟩
    | 4, hj => obtain rfl : exZero = x := by simpa using hj
               exact ⟨_, rfl, hz7⟩
    | 5, hj => obtain rfl : exNone = x := by simpa using hj
               exact ⟨_, rfl, hn7⟩))
  clear hz7 hn7
  refine (sameall_any va _ (after exF) [exZero, exZero, exZero, exZero, exZero, exNone] _ (HVA.out.mono monoSets (Bl.le (Bl.alloc HBA7.out _))) HL2.out).mono ?_
  rintro e w8 ⟨rfl, hb8⟩
  rw [decide_eq_true ex_after]
  have HBW8 := Lib.hid (Bl.call (Bl.alloc HBW7.out _) hb8)
  clear hb8 HL2 HVA HBA7 HBW7
  go_wp2_with fail
  refine (before_any _ zeroF w8 (zero_rfn _) zero_szd).mono ?_
  rintro e w9 ⟨⟨v9, rfl, hv9⟩, hb9⟩
  obtain ⟨A9, k9, rfl, _⟩ := hv9
  rw [zero_before]
  simp only [List.length_nil]
  have HB9 := Lib.hid (Bl.call HB0.out (Bl.call HBW8.out hb9))
  clear hb9
  go_wp2_with fail
  go_ret
  exact ⟨rfl, HB9.out⟩
end Go.Proofs.YtdkjkgokllmkmaaGreatDoor.Lv


