/- Walks: In, Used, Is, Index of the references. -/
import Derived.Test.YtdkjkgokllmkmaaGreatDoorLvj
namespace Go.Proofs.YtdkjkgokllmkmaaGreatDoor.Lv
open Go.RowKit
set_option linter.unusedVariables false
set_option linter.unusedSimpArgs false
theorem has_any (vl : Value) (l : List Int) (n : Int) (w : World) (hl : RInts w.cell? vl l) :
    Calls Tryz.prog 22 #[vl, .int .i64 n] w fun e w' => e = .returned (.bool (decide (n ∈ l))) ∧ w' = w := by
  have hm := hl.len
  obtain ⟨A, kl, rfl, h1, h2, h3⟩ := hl
  have HL := Lib.hid h3
  clear h3 h1 h2
  go_enter Tryz.func22, Tryz.ntmps22
  go_wp2
  go_loop [5] (fun i => ∃ k : Nat, k ≤ l.length ∧ i = .int .i64 k ∧ Hid (n ∉ l.take k)) (fun i => l.length - (intOf i).toNat)
  case atStart => exact ⟨0, Nat.zero_le _, rfl, by simp [Hid]⟩
  case round =>
    obtain ⟨k, hk, rfl, HN⟩ := hrel
    by_cases hlt : k < l.length
    · obtain ⟨ad, rfl, c⟩ := HL.out.int_at k hlt
      obtain ⟨x, hx⟩ : ∃ x, x = l.getD k 0 := ⟨_, rfl⟩
      rw [← hx] at c
      have HX := Lib.hid hx
      clear hx
      have hk1 : (k : Int) < (l.length : Int) := by omega
      by_cases hxn : x = n
      · have he : (x == n) = true := by simpa using hxn
        have HI : Hid (decide (n ∈ l) = true) := by
          show decide (n ∈ l) = true
          rw [decide_eq_true_eq, ← hxn, HX.out, List.getD_eq_getElem?_getD, List.getElem?_eq_getElem hlt]
          exact List.getElem_mem hlt
        clear hxn
        go_wp2
        go_ret
        exact ⟨by rw [HI.out]; rfl, rfl⟩
      · have he : (x == n) = false := by simpa using hxn
        have HN2 : Hid (n ∉ l.take (k + 1)) := by
          show n ∉ l.take (k + 1)
          rw [take_snoc l k 0 hlt, List.mem_append]
          rintro (h | h)
          · exact HN.out h
          · rw [← HX.out] at h
            exact hxn (List.mem_singleton.1 h).symm
        clear hxn
        go_wp2
        go_round
        case rel => exact ⟨k + 1, by omega, by go_num, HN2⟩
        case measure => simp [intOf]; omega
    · obtain rfl : k = l.length := by omega
      have HI : Hid (decide (n ∈ l) = false) := by
        show decide (n ∈ l) = false
        have := HN.out
        rw [List.take_length] at this
        exact decide_eq_false this
      clear HN
      go_wp2
      go_ret
      exact ⟨by rw [HI.out]; rfl, rfl⟩
/-- The tables' own '==' on numbers is membership, as Bool. -/
theorem used_any (vu : Value) (u : Us) (v : Nat) (w : World) (hu : RUs w.cell? vu u) :
    Calls Tryz.prog 20 #[vu, .int .i64 v] w fun e w' => e = .returned (.bool (u.used v)) ∧ Below w.heap.size w w' := by
  obtain ⟨v0, v1, v2, v3, v4, rfl, ⟨A0, k0, rfl, p0, q0, r0⟩, ⟨A1, k1, rfl, p1, q1, r1⟩, ⟨A2, k2, rfl, p2, q2, r2⟩, ⟨A3, k3, rfl, p3, q3, r3⟩, ⟨A4, k4, rfl, p4, q4, r4⟩⟩ := hu
  have H0 := Lib.hid (fun c (hc : Le w.cell? c) => (⟨A0, k0, rfl, p0, q0, r0.mono monoInt hc⟩ : RInts c (.slice A0 u.copies.length k0) u.copies))
  have H1 := Lib.hid (fun c (hc : Le w.cell? c) => (⟨A1, k1, rfl, p1, q1, r1.mono monoInt hc⟩ : RInts c (.slice A1 u.moves.length k1) u.moves))
  have H2 := Lib.hid (fun c (hc : Le w.cell? c) => (⟨A2, k2, rfl, p2, q2, r2.mono monoInt hc⟩ : RInts c (.slice A2 u.shares.length k2) u.shares))
  have H3 := Lib.hid (fun c (hc : Le w.cell? c) => (⟨A3, k3, rfl, p3, q3, r3.mono monoInt hc⟩ : RInts c (.slice A3 u.lends.length k3) u.lends))
  clear r0 r1 r2 r3 r4 p0 q0 p1 q1 p2 q2 p3 q3 p4 q4
  obtain ⟨b0, e0⟩ : ∃ b, b = decide ((v : Int) ∈ u.copies) := ⟨_, rfl⟩
  obtain ⟨b1, e1⟩ : ∃ b, b = decide ((v : Int) ∈ u.moves) := ⟨_, rfl⟩
  obtain ⟨b2, e2⟩ : ∃ b, b = decide ((v : Int) ∈ u.shares) := ⟨_, rfl⟩
  obtain ⟨b3, e3⟩ : ∃ b, b = decide ((v : Int) ∈ u.lends) := ⟨_, rfl⟩
  have HU : Hid (u.used v = (b0 || b1 || b2 || b3)) := by
    show u.used v = _
    rw [e0, e1, e2, e3]
    rfl
  have E0 := Lib.hid e0
  have E1 := Lib.hid e1
  have E2 := Lib.hid e2
  have E3 := Lib.hid e3
  clear e0 e1 e2 e3
  go_enter Tryz.func20, Tryz.ntmps20
  go_wp2_with fail
  refine (has_any _ _ _ _ (H0.out _ (Bl.le (by repeat (first | apply Bl.alloc | exact Below.refl _ _))))).mono ?_
  rintro e w' ⟨rfl, rfl⟩
  rw [← E0.out]
  cases b0
  · go_wp2_with fail
    refine (has_any _ _ _ _ (H1.out _ (Bl.le (by repeat (first | apply Bl.alloc | exact Below.refl _ _))))).mono ?_
    rintro e w' ⟨rfl, rfl⟩
    rw [← E1.out]
    cases b1
    · go_wp2_with fail
      refine (has_any _ _ _ _ (H2.out _ (Bl.le (by repeat (first | apply Bl.alloc | exact Below.refl _ _))))).mono ?_
      rintro e w' ⟨rfl, rfl⟩
      rw [← E2.out]
      cases b2
      · go_wp2_with fail
        refine (has_any _ _ _ _ (H3.out _ (Bl.le (by repeat (first | apply Bl.alloc | exact Below.refl _ _))))).mono ?_
        rintro e w' ⟨rfl, rfl⟩
        rw [← E3.out]
        go_wp2_with fail
        go_ret
        exact ⟨by rw [HU.out]; rfl, Bl.alloc (Below.refl _ _) _⟩
      · go_wp2_with fail
        go_ret
        exact ⟨by rw [HU.out]; rfl, Bl.alloc (Below.refl _ _) _⟩
    · go_wp2_with fail
      go_ret
      exact ⟨by rw [HU.out]; rfl, Bl.alloc (Below.refl _ _) _⟩
  · go_wp2_with fail
    go_ret
    exact ⟨by rw [HU.out]; rfl, Bl.alloc (Below.refl _ _) _⟩
theorem in_yes (n l : Int) (w : World) (h : 0 ≤ n ∧ n < l) : Calls Tryz.prog 40 #[.int .i64 n, .int .i64 l] w fun e w' => e = .returned (.bool true) ∧ w' = w :=
  (in_any n l w).mono fun e w' ⟨h1, h2⟩ => ⟨by rw [h1]; simp [h.1, h.2], h2⟩
theorem in_no (n l : Int) (w : World) (h : ¬ (0 ≤ n ∧ n < l)) : Calls Tryz.prog 40 #[.int .i64 n, .int .i64 l] w fun e w' => e = .returned (.bool false) ∧ w' = w :=
  (in_any n l w).mono fun e w' ⟨h1, h2⟩ => ⟨by rw [h1]; congr 2; simpa using fun h0 => by omega, h2⟩
set_option maxHeartbeats 4000000 in
set_option maxRecDepth 100000 in
theorem is_any (v : Value) (F : Fn) (b i : Nat) (w : World) (hF : RFn w.cell? v F) (hb : b < F.blocks.length) (hi : i ≤ (F.blk b).code.length) (hsz : F.blocks.length ≤ 1000 ∧ (F.blk b).code.length ≤ 1000) :
    Calls Tryz.prog 39 #[v, .agg #[.int .i64 b, .int .i64 i]] w fun e w' => e = .returned (.bool true) ∧ Below w.heap.size w w' := by
  obtain ⟨mo, pa, ar, vb, vr, vl', vk, vt, Ab, At, nb, cb, nt, ct, rfl, rfl, rfl, m1, m2, ⟨Ar, kr, rfl, hr1, hr2, hr3⟩, ⟨Al, kl, rfl, h1, h2, hL⟩, ⟨Ak, kk, rfl, hk1, hk2, hk3⟩⟩ := hF
  obtain ⟨adb, vc, vg, rfl, c0, c1, c2, c3, ⟨Ac, kc, rfl, hc1, hc2, hc3⟩, ⟨Ag, kg, rfl, hg1, hg2, hg3⟩⟩ := hk3.blk_at b hb
  unfold Fn.blk at hi hsz
  obtain ⟨B, hB⟩ : ∃ B, B = F.blocks.getD b default := ⟨_, rfl⟩
  rw [← hB] at c0 c1 c2 c3 hc1 hi hsz
  obtain ⟨z1, z2⟩ := hsz
  clear hr3 hL hk3 hc3 hg3 hg1 hB
  have hb0 : (b : Int) < (F.blocks.length : Int) := by omega
  have hb1 : (0 : Int) ≤ (b : Int) := by omega
  have hi0 : (0 : Int) ≤ (i : Int) := by omega
  have hi1 : (i : Int) ≤ (B.code.length : Int) := by omega
  have lk := World.block_lt_of_cell? w _ c0
  go_enter Tryz.func39, Tryz.ntmps39
  go_upto_region 1 with fail
  go_quiet ((go_at_call 40; exact Calls.quiet_of_same (in_yes _ _ _ ⟨hb1, hb0⟩)))
  go_wp2
  go_ret
  exact ⟨rfl, Bl.drewN (by repeat (first | apply Bl.alloc | exact Below.refl _ _)) _⟩
/-- How many points the blocks ahead of one have. -/
def offs (F : Fn) : Nat → Nat
  | 0 => 0
  | b + 1 => offs F b + (F.blk b).code.length + 1
theorem offs_le (F : Fn) (hs : Szd F) : ∀ b, b ≤ F.blocks.length → offs F b ≤ 22 * b
  | 0, _ => by simp [offs]
  | b + 1, h => by
    have := offs_le F hs b (by omega)
    have hc := hs.code (F.blk b) (getD_mem (by omega))
    simp only [offs]
    omega
set_option maxHeartbeats 4000000 in
set_option maxRecDepth 100000 in
theorem index_any (v : Value) (F : Fn) (b i : Nat) (w : World) (hF : RFn w.cell? v F) (hs : Szd F) (hb : b < F.blocks.length) (hi : i ≤ (F.blk b).code.length) :
    Calls Tryz.prog 21 #[v, .agg #[.int .i64 b, .int .i64 i]] w fun e w' => e = .returned (.int .i64 (i + offs F b : Nat)) ∧ Below w.heap.size w w' := by
  obtain ⟨mo, pa, ar, vb, vr, vl', vk, vt, Ab, At, nb, cb, nt, ct, rfl, rfl, rfl, m1, m2, ⟨Ar, kr, rfl, hr1, hr2, hr3⟩, ⟨Al, kl, rfl, h1, h2, hL⟩, ⟨Ak, kk, rfl, hk1, hk2, hk3⟩⟩ := id hF
  have hbl := hs.blocks
  have hbc := hs.code (F.blk b) (getD_mem hb)
  have HF := Lib.hid (fun c (hc : Le w.cell? c) => hF.mono hc)
  have HK := Lib.hid (fun c (hc : Le w.cell? c) => hk3.mono monoBlk hc)
  have HS := Lib.hid hs
  clear hF hr3 hL hk3 hs
  go_enter Tryz.func21, Tryz.ntmps21
  go_wp2_with fail
  refine (is_any _ F b i _ (HF.out _ (Bl.le (by repeat (first | apply Bl.alloc | exact Below.refl _ _)))) hb hi ⟨by omega, by omega⟩).mono ?_
  rintro e w1 ⟨rfl, hb1⟩
  have bF := Bx.below (w' := w1) (b := w.heap.size) (t := 29) (cs := #[.string F.name, .int .i64 mo, .int .i64 pa, .slice Ab nb cb, .int .i64 ar, .int .i64 F.result.kind, .int .i64 F.result.id, .slice Ar F.result.args.length kr, .slice Al F.locals.length kl, .slice Ak F.blocks.length kk, .slice At nt ct]) (by repeat (first | (refine Bx.at0 _ _ _ ?_; (simp; done)) | apply Bx.alloc)) hb1
  have bX := Bx.below (w' := w1) (b := w.heap.size + 1) (t := 43) (cs := #[.int .i64 b, .int .i64 i]) (by repeat (first | (refine Bx.at0 _ _ _ ?_; (simp; done)) | apply Bx.alloc)) hb1
  have HB1 := Lib.hid (Bl.call (w := w) (by repeat (first | apply Bl.alloc | exact Below.refl _ _)) hb1)
  clear hb1
  have cF := bF.cell
  have cX := bX.cell
  clear bF bX
  go_wp2_with fail
  go_loop [5, 6] (fun n k => ∃ j : Nat, j ≤ b ∧ n = .int .i64 (i + offs F j : Nat) ∧ k = .int .i64 j) (fun _ k => b - (intOf k).toNat)
  case atStart => exact ⟨0, Nat.zero_le _, rfl, rfl⟩
  case round =>
    obtain ⟨j, hj, rfl, rfl⟩ := hrel
    have ho := offs_le F HS.out j (by omega)
    by_cases hlt : j < b
    · obtain ⟨adb, vc, vg, rfl, c0, c1, c2, c3, ⟨Ac, kc, rfl, hc1, hc2, hc3⟩, ⟨Ag, kg, rfl, hg1, hg2, hg3⟩⟩ := (HK.out _ (Bl.le HB1.out)).blk_at j (by omega)
      have hbj := HS.out.code (F.blk j) (getD_mem (by omega))
      have HO : Hid (i + offs F (j + 1) = i + offs F j + (F.blocks.getD j default).code.length + 1) := by
        show _ = _
        simp only [offs, Fn.blk]
        omega
      unfold Fn.blk at hbj
      obtain ⟨B, hB⟩ : ∃ B, B = F.blocks.getD j default := ⟨_, rfl⟩
      rw [← hB] at c0 c1 c2 c3 hc1 hbj HO
      clear hc3 hg3 hg1 hB
      have hj0 : (j : Int) < (F.blocks.length : Int) := by omega
      have hj1 : (j : Int) < (b : Int) := by omega
      go_wp2
      go_round
      case rel => exact ⟨j + 1, by omega, by rw [HO.out]; go_num, by go_num⟩
      case measure => simp [intOf]; omega
    · obtain rfl : j = b := by omega
      go_wp2
      go_ret
      exact ⟨rfl, HB1.out⟩
end Go.Proofs.YtdkjkgokllmkmaaGreatDoor.Lv
