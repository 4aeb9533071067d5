/- Walks: Before of the reference. -/
import Derived.Test.YtdkjkgokllmkmaaGreatDoorLxu
namespace Go.Proofs.YtdkjkgokllmkmaaGreatDoor.Lv
open Go.RowKit
set_option linter.unusedVariables false
set_option linter.unusedSimpArgs false
theorem Tryz.mk33 (n : Nat) (hn : n ≤ 1000000) (w : World) : (Instr.makeSlice 33 (.int .i64 (n : Int)) (.int .i64 (n : Int))).run Tryz.prog w = .ok (.slice (some ⟨w.heap.size, 0, none⟩) n n) (w.alloc (.cells (tabA n fun _ => nilS) 38)) := by
  obtain ⟨i0, hi0, hz0, hz1, hz2⟩ := info_parts Tryz.info38
  have := run_make (P := Tryz.prog) w 33 38 i0 _ Tryz.underlying33 hi0 hz0 .i64 .i64 n n (by omega) (by omega) (by rw [hz2]; omega) (by omega)
  rw [hz1] at this
  simpa [made_tab, Value.cells, nilS] using this
/-- A list of sets in a block of the call's own; the sets lie elsewhere. -/
structure RB (bO np : Nat) (vals : Nat → Value) (xss : List (List Bool)) (k : Nat) (w : World) : Prop where
  box : Bx w bO 38 (tabA np fun i => if i < k then vals i else nilS)
  row : ∀ i, i < k → RBools (look [bO] w) (vals i) (xss.getD i [])
theorem RB.below {bO np : Nat} {vals : Nat → Value} {xss : List (List Bool)} {k : Nat} {w w' : World} (h : RB bO np vals xss k w) (hb : Below w.heap.size w w') : RB bO np vals xss k w' :=
  ⟨h.box.below hb, fun i hi => (h.row i hi).mono monoBool (Chg.of_below hb [bO]).le⟩
theorem RB.cell {bO np : Nat} {vals : Nat → Value} {xss : List (List Bool)} {k : Nat} {w : World} (h : RB bO np vals xss k w) {i : Nat} (hi : i < k) (hn : i < np) : w.cell? ⟨bO, i, none⟩ = some (vals i) := by
  rw [h.box.cell, tabA_get hn, if_pos hi]
/-- A further set, or another one. -/
theorem RB.put {bO np : Nat} {vals : Nat → Value} {xss : List (List Bool)} {k : Nat} {w : World} (h : RB bO np vals xss k w) {i : Nat} (hi : i ≤ k) (hn : i < np) (hk : k < np ∨ i < k) {v : Value} {s : List Bool} {k' : Nat} (hk' : k' = if i < k then k else k + 1) {xss' : List (List Bool)} (hs : xss'.getD i [] = s) (ho : ∀ j, j ≠ i → xss'.getD j [] = xss.getD j []) (hv : RBools (look [bO] w) v s) :
    RB bO np (upd vals i v) xss' k' (w.setCell ⟨bO, i, none⟩ v) := by
  have hc : Chg [bO] w (w.setCell ⟨bO, i, none⟩ v) := (Chg.refl _ _).put (.inl (by simp)) _
  refine ⟨?_, fun j hj => ?_⟩
  · have := h.box.set i v
    rw [tabA_set, tabA_congr (g := fun j => if j < k' then upd vals i v j else nilS) (fun j hjn => ?_)] at this
    · exact this
    · by_cases e : j = i
      · subst e
        rw [if_pos rfl, if_pos (by split at hk' <;> omega), upd_same]
      · rw [if_neg e, upd_ne _ _ e]
        by_cases hjk : j < k
        · rw [if_pos hjk, if_pos (by split at hk' <;> omega)]
        · rw [if_neg hjk, if_neg (by split at hk' <;> omega)]
  · by_cases e : j = i
    · subst e
      rw [upd_same, hs]
      exact hv.mono monoBool hc.le
    · rw [upd_ne _ _ e, ho j e]
      exact (h.row j (by split at hk' <;> omega)).mono monoBool hc.le
theorem RB.sets {bO np : Nat} {vals : Nat → Value} {xss : List (List Bool)} {w : World} (h : RB bO np vals xss np w) (hl : xss.length = np) (hm : np ≤ maxLen) : RSets w.cell? (.slice (some ⟨bO, 0, none⟩) np np) xss := by
  refine ⟨_, np, by rw [hl], by omega, hm, fun j x hj => ?_⟩
  have hjl : j < np := by
    have := (List.getElem?_eq_some_iff.1 hj).1
    omega
  have hx : xss.getD j [] = x := by rw [List.getD_eq_getElem?_getD, hj]; rfl
  refine ⟨_, [vals j], rfl, rfl, ⟨_, rfl, ?_⟩, fun i u hu => ?_⟩
  · have := (h.row j hjl).mono monoBool (look_le _ _)
    rwa [hx] at this
  · have hi : i = 0 := by have := (List.getElem?_eq_some_iff.1 hu).1; simp at this; exact this
    subst hi
    simp only [List.getElem?_cons_zero, Option.some.injEq] at hu
    subst hu
    rw [Addr.add_lit, show 0 + (j * 1 + 0) = j by omega]
    exact h.cell hjl hjl
/-- Where the rounds stand. -/
def RBI (F : Fn) (np : Nat) (w : World) (W : World) (bF bO : Nat) (FC : Array Value) (g : Value) (wr : World) (n : Nat) : Prop :=
  ∃ b vals xss, g = .bool b ∧ LInv F xss ∧ (b = false → ∀ i, i < np → stp F xss ((pts F).getD i (0, 0)) = xss.getD i []) ∧ n = 2 * (np * F.locals.length - cnt xss) + (if b then 1 else 0) ∧
    Hid (Below w.heap.size w wr) ∧ Hid (Chg [bO] W wr) ∧ Hid (Bx wr bF 29 FC) ∧ Hid (RB bO np vals xss np wr)
/-- Where a round stands, with so many locals in the sets when it began. -/
def RBJ (F : Fn) (np c0 : Nat) (w : World) (W : World) (bF bO : Nat) (FC : Array Value) (g i : Value) (wr : World) : Prop :=
  ∃ b vals xss, ∃ m : Nat, g = .bool b ∧ i = .int .i64 ((m : Int) - 1) ∧ m ≤ np ∧ LInv F xss ∧ c0 ≤ cnt xss ∧ (b = true → c0 < cnt xss) ∧ (b = false → ∀ j, m ≤ j → j < np → stp F xss ((pts F).getD j (0, 0)) = xss.getD j []) ∧
    Hid (Below w.heap.size w wr) ∧ Hid (Chg [bO] W wr) ∧ Hid (Bx wr bF 29 FC) ∧ Hid (RB bO np vals xss np wr)
set_option maxHeartbeats 16000000 in
set_option maxRecDepth 100000 in
theorem rbefore_any (v : Value) (F : Fn) (w : World) (hF : RFn w.cell? v F) (hs : Szd F) :
    Calls Tryz.prog 13 #[v] w fun e w' => (∃ vp, e = .returned vp ∧ RSets w'.cell? vp (before F)) ∧ Below w.heap.size w w' := by
  obtain ⟨mo, pa, ar, vb, vr, vl', vk, vt, Ab, At, nb, cb, nt, ct, rfl, rfl, rfl, m1, m2, ⟨Ar, kr, rfl, hr1, hr2, hr3⟩, ⟨Al, kl, rfl, g1, g2, hL⟩, ⟨Ak, kk, rfl, hk1, hk2, hk3⟩⟩ := id hF
  have hll := hs.locals
  have HF := Lib.hid (fun c (hc : Le w.cell? c) => hF.mono hc)
  have HS := Lib.hid hs
  have e38 := Tryz.mk38 F.locals.length (by omega)
  clear hF hr3 hL hk3 hs
  go_enter Tryz.func13, Tryz.ntmps13
  go_wp2_with fail
  obtain ⟨FC, hFC⟩ : ∃ FC : Array Value, FC = #[.string F.name, .int .i64 mo, .int .i64 pa, .slice Ab nb cb, .int .i64 ar, .int .i64 F.result.kind, .int .i64 F.result.id, .slice Ar F.result.args.length kr, .slice Al F.locals.length kl, .slice Ak F.blocks.length kk, .slice At nt ct] := ⟨_, rfl⟩
  obtain ⟨bF, hbF⟩ : ∃ bF, bF = w.heap.size := ⟨_, rfl⟩
  rw [← hbF]
  generalize hW : World.alloc _ _ = W
  have HB0 : Hid (Below w.heap.size w W) := by rw [← hW]; exact Bl.alloc (Below.refl _ _) _
  have HBF0 : Hid (Bx W bF 29 FC) := by
    show Bx _ _ _ _
    rw [← hW, hFC]
    exact Bx.at0 _ _ _ hbF
  have HFC := Lib.hid hFC
  have hbF2 : w.heap.size ≤ bF := by omega
  clear hW hbF hFC
  refine (points_any _ F W (HF.out _ (Bl.le HB0.out)) HS.out).mono ?_
  rintro e w1 ⟨⟨vp, rfl, hvp⟩, hb1⟩
  have HB1 := Lib.hid (Bl.call HB0.out hb1)
  have HBF1 := Lib.hid (HBF0.out.below hb1)
  obtain ⟨XP, kP, rfl, xp1, xp2, xp3⟩ := hvp
  have HXP := Lib.hid xp3
  have hnb : (pts F).length ≤ 1000 := by
    have h1 := offs_le F HS.out F.blocks.length (Nat.le_refl _)
    have h2 := HS.out.blocks
    rw [pts_len]
    omega
  obtain ⟨np, hnp⟩ : ∃ np, np = (pts F).length := ⟨_, rfl⟩
  rw [← hnp] at hnb ⊢
  have HNP := Lib.hid hnp
  have e33 := Tryz.mk33 np (by omega)
  clear hb1 HB0 HBF0 xp1 xp2 xp3 hnp
  go_wp2_with fail
  obtain ⟨bO, hbO⟩ : ∃ bO, bO = w1.heap.size := ⟨_, rfl⟩
  rw [← hbO]
  generalize hW2 : World.alloc _ _ = W2
  have HB2 : Hid (Below w.heap.size w W2) := by rw [← hW2]; exact Bl.alloc HB1.out _
  have HBF2 : Hid (Bx W2 bF 29 FC) := by rw [← hW2]; exact HBF1.out.alloc _
  have HR2 : Hid (RB bO np (fun _ => nilS) [] 0 W2) := by
    refine ⟨?_, fun i hi => absurd hi (Nat.not_lt_zero _)⟩
    rw [← hW2]
    exact Bx.at0 _ _ _ hbO
  have HXP2 : Hid (RRow KPt 2 (look [bO] W2) XP (pts F)) := by
    refine HXP.out.mono monoPt ?_
    rw [← hW2]
    exact le_lookD (Bl.alloc (Below.refl _ _) _) (fun k hk => by rw [List.mem_singleton] at hk; omega)
  have hbO2 : w.heap.size ≤ bO := by rw [hbO]; exact HB1.out.size
  have hne : bF ≠ bO := by have := HBF1.out.lt; omega
  clear hW2 hbO HB1 HBF1 HXP e33
  go_loopw [5] (fun i wr => ∃ (k : Nat) (vals : Nat → Value), i = .int .i64 k ∧ k ≤ np ∧ Hid (Below w.heap.size w wr) ∧ Hid (Chg [bO] W2 wr) ∧ Hid (Bx wr bF 29 FC) ∧ Hid (RB bO np vals (List.replicate k (List.replicate F.locals.length false)) k wr)) (fun i _ => np - (intOf i).toNat)
  case atStart => exact ⟨0, _, rfl, Nat.zero_le _, HB2, Chg.refl _ _, HBF2, HR2⟩
  case round =>
    clear HB2 HBF2 HR2
    obtain ⟨k, vals, rfl, hk, HB, HC, HBF, HR⟩ := hrel
    by_cases hkn : k < np
    · have hki : (k : Int) < (np : Int) := by omega
      have hcF := HBF.out.cell
      rw [HFC.out] at hcF
      have cO := HR.out.box.cell k
      rw [tabA_get hkn] at cO
      have fO := HR.out.box.frozen k
      have ltO := HR.out.box.lt
      have HK : ∀ w2, w2 = (wr.setCell ⟨bO, k, none⟩ (.slice (some ⟨wr.heap.size, 0, none⟩) F.locals.length F.locals.length)).alloc (.cells (tabA F.locals.length fun _ => .bool false) 4) → Hid (Below w.heap.size w w2) ∧ Hid (Chg [bO] W2 w2) ∧ Hid (Bx w2 bF 29 FC) ∧ Hid (RB bO np (upd vals k (.slice (some ⟨wr.heap.size, 0, none⟩) F.locals.length F.locals.length)) (List.replicate (k + 1) (List.replicate F.locals.length false)) (k + 1) w2) := fun w2 e => by
        rw [e, ← World.setCell_alloc_past _ _ _ _ ltO]
        have hb := Bl.alloc (Below.refl wr.heap.size wr) (.cells (tabA F.locals.length fun _ => .bool false) 4)
        refine ⟨Bl.set (Bl.alloc HB.out _) hbO2 _, (HC.out.call hb).put (.inl (by simp)) _, (HBF.out.alloc _).far (by simpa using hne) _, ?_⟩
        refine (HR.out.below hb).put (Nat.le_refl _) hkn (.inl hkn) (by simp) (s := List.replicate F.locals.length false) ?_ (fun j hj => ?_) ?_
        · rw [List.getD_eq_getElem?_getD, List.getElem?_replicate, if_pos (by omega)]
          rfl
        · rw [List.getD_eq_getElem?_getD, List.getElem?_replicate, List.getD_eq_getElem?_getD, List.getElem?_replicate]
          by_cases hjk : j < k
          · rw [if_pos (by omega), if_pos hjk]
          · rw [if_neg (by omega), if_neg hjk]
        · have := OSet.new w.heap.size wr F.locals.length HB.out.size (by omega)
          have h2 := this.bools [bO] (fun g hg => by
            simp only [Value.ownBlock, Option.some.injEq] at hg
            rw [List.mem_singleton]
            omega)
          simpa using h2
      go_wp2_with fail
      clear hcF cO fO
      go_roundw
      case rel =>
        obtain ⟨h1, h2, h3, h4⟩ := HK _ rfl
        exact ⟨k + 1, _, by go_num, by omega, h1, h2, h3, h4⟩
      case measure => simp [intOf]; omega
    · obtain rfl : k = np := by omega
      have HI : Hid (RBI F k w W2 bF bO FC (.bool true) wr (2 * (k * F.locals.length - cnt (List.replicate k (List.replicate F.locals.length false))) + 1)) := by
        have h0 := LInv.init F
        rw [← HNP.out] at h0
        exact ⟨true, vals, _, rfl, h0, (fun h => by cases h), rfl, HB, HC, HBF, HR⟩
      clear HB HC HBF HR
      go_wp2_with fail
      go_loopw [6] (fun g wr => ∃ n, RBI F k w W2 bF bO FC g wr n) (fun g wr => leastOf fun n => RBI F k w W2 bF bO FC g wr n)
      case atStart => exact ⟨_, HI.out⟩
      case round =>
        clear HI
        obtain ⟨n0, hn0⟩ := hrel
        have hI := (leastOf_spec (p := fun n => RBI F k w W2 bF bO FC u6 wr n) hn0).1
        clear hn0 n0
        obtain ⟨b, vals, xss, hg, HL, hfix, hn, HB, HC, HBF, HR⟩ := hI
        subst hg
        cases b with
        | false =>
          have he : xss = before F := HL.done (by rw [← HNP.out]; exact hfix rfl)
          have hk9 : k ≤ maxLen := by simp only [maxLen]; omega
          have hR := HR.out.sets (by rw [HL.len, HNP.out]) hk9
          rw [he] at hR
          have HRR := Lib.hid hR
          clear hfix hn he HL hR
          go_wp2_with fail
          go_ret
          exact ⟨⟨_, rfl, HRR.out⟩, HB.out⟩
        | true =>
          simp only [if_true] at hn
          have HN := Lib.hid hn
          have HJ : Hid (RBJ F k (cnt xss) w W2 bF bO FC (.bool false) (.int .i64 ((k : Int) - 1)) wr) :=
            ⟨false, vals, xss, k, rfl, rfl, Nat.le_refl _, HL, Nat.le_refl _, (fun h => by cases h), (fun _ j h1 h2 => by omega), HB, HC, HBF, HR⟩
          obtain ⟨cc, hcc⟩ : ∃ cc, cc = cnt xss := ⟨_, rfl⟩
          have hcb : cc ≤ k * F.locals.length := by
            have := HL.bound
            rw [← HNP.out] at this
            omega
          rw [← hcc] at HN HJ
          clear hfix hn HL HB HC HBF HR hcc
          go_wp2_with fail
          go_loopw [6, 7] (fun g i wr => RBJ F k cc w W2 bF bO FC g i wr) (fun _ i _ => (intOf i + 1).toNat)
          case atStart => exact HJ.out
          case round =>
            clear HJ
            obtain ⟨b, vals, xss, m, rfl, rfl, hm, HL, hc0, hbt, hbf, HB, HC, HBF, HR⟩ := hrel
            by_cases h0 : 0 < m
            · obtain ⟨q, rfl⟩ : ∃ q, m = q + 1 := ⟨m - 1, by omega⟩
              have eq1 : (((q + 1 : Nat) : Int)) - 1 = (q : Int) := by omega
              rw [eq1]
              have hq0 : (0 : Int) ≤ (q : Int) := by omega
              have hqi : (q : Int) < (k : Int) := by omega
              have hqn : q < (pts F).length := by rw [← HNP.out]; omega
              obtain ⟨ap, rfl, c0, c1⟩ := (RRow.mono monoPt (Chg.le' HC.out) HXP2.out).pt_at q hqn
              have hp := pts_at hqn
              have hix := idx_pts hqn
              have hbf' := Lib.hid (fun hb => hbf hb)
              obtain ⟨p1, p2, hpe⟩ : ∃ p1 p2, (pts F).getD q (0, 0) = (p1, p2) := ⟨_, _, rfl⟩
              rw [hpe] at c0 c1 hp hix
              simp only at c0 c1
              have hp2 : p2 < 1000 := by
                have h1 := HS.out.code _ (getD_mem hp.1)
                have h2 := hp.2
                unfold Fn.blk at h2
                simp only at h2 h1
                omega
              have HP := Lib.hid hp
              have HPE := Lib.hid hpe
              have HIX := Lib.hid hix
              have HLI := Lib.hid HL
              have HBT := Lib.hid hbt
              have hcF := HBF.out.cell
              rw [HFC.out] at hcF
              clear hp hpe hix hbf hbt HL
              go_upto_region 13 with fail
              refine region_anyS (S := (fun w'' : World => (∀ j, w''.cell? ⟨bF, j, none⟩ = (#[.string F.name, .int .i64 mo, .int .i64 pa, .slice Ab nb cb, .int .i64 ar, .int .i64 F.result.kind, .int .i64 F.result.id, .slice Ar F.result.args.length kr, .slice Al F.locals.length kl, .slice Ak F.blocks.length kk, .slice At nt ct] : Array Value)[j]?) ∧ w''.cell? (ap.add (q * 2)) = some (.int .i64 (p1 : Nat)) ∧ w''.cell? ⟨(ap.add (q * 2)).block, (ap.add (q * 2)).off + 1, none⟩ = some (.int .i64 (p2 : Nat)))) ?_
              have hSd : (fun w'' : World => (∀ j, w''.cell? ⟨bF, j, none⟩ = (#[.string F.name, .int .i64 mo, .int .i64 pa, .slice Ab nb cb, .int .i64 ar, .int .i64 F.result.kind, .int .i64 F.result.id, .slice Ar F.result.args.length kr, .slice Al F.locals.length kl, .slice Ak F.blocks.length kk, .slice At nt ct] : Array Value)[j]?) ∧ w''.cell? (ap.add (q * 2)) = some (.int .i64 (p1 : Nat)) ∧ w''.cell? ⟨(ap.add (q * 2)).block, (ap.add (q * 2)).off + 1, none⟩ = some (.int .i64 (p2 : Nat))) wr.drew := ⟨hcF, c0, c1⟩
              (refine AnyS.take (i := 0) (v := ?_) (by kernel_rfl) rfl (by kernel_rfl) (by kernel_rfl) (by kernel_rfl) (fun _ _ _ h => h) (by assumption) ⟨⟨by rfl, ?_⟩, fun _ => rfl⟩ ?_; rotate_left; (rintro w' ⟨hs1, hs2, hs3⟩; go_simp; rfl))
              (refine AnyS.take (i := 1) (v := ?_) (by kernel_rfl) rfl (by kernel_rfl) (by kernel_rfl) (by kernel_rfl) (fun _ _ _ h => h) (by assumption) ⟨⟨by rfl, ?_⟩, fun _ => rfl⟩ ?_; rotate_left; (rintro w' ⟨hs1, hs2, hs3⟩; go_simp; rfl))
              (refine AnyS.take (i := 2) (v := ?_) (by kernel_rfl) rfl (by kernel_rfl) (by kernel_rfl) (by kernel_rfl) (fun _ _ _ h => h) (by assumption) ⟨⟨by rfl, ?_⟩, fun _ => rfl⟩ ?_; rotate_left; (rintro w' ⟨hs1, hs2, hs3⟩; go_simp; rfl))
              (refine AnyS.take (i := 3) (v := ?_) (by kernel_rfl) rfl (by kernel_rfl) (by kernel_rfl) (by kernel_rfl) (fun _ _ _ h => h) (by assumption) ⟨⟨by rfl, ?_⟩, fun _ => rfl⟩ ?_; rotate_left; (rintro w' ⟨hs1, hs2, hs3⟩; go_simp; rfl))
              (refine AnyS.take (i := 4) (v := ?_) (by kernel_rfl) rfl (by kernel_rfl) (by kernel_rfl) (by kernel_rfl) (fun _ _ _ h => h) (by assumption) ⟨⟨by rfl, ?_⟩, fun _ => rfl⟩ ?_; rotate_left; (rintro w' ⟨hs1, hs2, hs3⟩; go_simp; rfl))
              (refine AnyS.take (i := 6) (v := ?_) (by kernel_rfl) rfl (by kernel_rfl) (by kernel_rfl) (by kernel_rfl) (fun _ _ _ h => h) (by assumption) ⟨⟨by rfl, ?_⟩, fun _ => rfl⟩ ?_; rotate_left; (rintro w' ⟨hs1, hs2, hs3⟩; go_simp; rfl))
              (refine AnyS.take (i := 7) (v := ?_) (by kernel_rfl) rfl (by kernel_rfl) (by kernel_rfl) (by kernel_rfl) (fun _ _ _ h => h) (by assumption) ⟨⟨by rfl, ?_⟩, fun _ => rfl⟩ ?_; rotate_left; (rintro w' ⟨hs1, hs2, hs3⟩; go_simp; rfl))
              (refine AnyS.take (i := 8) (v := ?_) (by kernel_rfl) rfl (by kernel_rfl) (by kernel_rfl) (by kernel_rfl) (fun _ _ _ h => h) (by assumption) ⟨⟨by rfl, ?_⟩, fun _ => rfl⟩ ?_; rotate_left; (rintro w' ⟨hs1, hs2, hs3⟩; go_simp; rfl))
              (refine AnyS.take (i := 9) (v := ?_) (by kernel_rfl) rfl (by kernel_rfl) (by kernel_rfl) (by kernel_rfl) (fun _ _ _ h => h) (by assumption) ⟨⟨by rfl, ?_⟩, fun _ => rfl⟩ ?_; rotate_left; (rintro w' ⟨hs1, hs2, hs3⟩; go_simp; rfl))
              (refine AnyS.take (i := 10) (v := ?_) (by kernel_rfl) rfl (by kernel_rfl) (by kernel_rfl) (by kernel_rfl) (fun _ _ _ h => h) (by assumption) ⟨⟨by rfl, ?_⟩, fun _ => rfl⟩ ?_; rotate_left; (rintro w' ⟨hs1, hs2, hs3⟩; go_simp; rfl))
              (refine AnyS.take (i := 11) (v := ?_) (by kernel_rfl) rfl (by kernel_rfl) (by kernel_rfl) (by kernel_rfl) (fun _ _ _ h => h) (by assumption) ⟨⟨by rfl, ?_⟩, fun _ => rfl⟩ ?_; rotate_left; (rintro w' ⟨hs1, hs2, hs3⟩; go_simp; rfl))
              refine AnyS.one (i := 5) (by kernel_rfl) ?_
              refine wpOpIn_step rfl (fun K hK => ?_)
              go_simp
              refine ⟨trivial, ?_⟩
              refine (callsIn_wide.2 (at_any _ F p1 p2 wr.drew (HF.out _ (Bl.le (Bl.drew HB.out))) HS.out HP.out.1 hp2)).mono ?_
              rintro e w3 ⟨⟨vu, rfl, hu⟩, hb3⟩
              have hb3' : Below wr.heap.size wr w3 := Bl.call (Bl.drew (Below.refl _ _)) hb3
              have h3 := (HBF.out.below hb3').cell
              rw [HFC.out] at h3
              have hS3 : (fun w'' : World => (∀ j, w''.cell? ⟨bF, j, none⟩ = (#[.string F.name, .int .i64 mo, .int .i64 pa, .slice Ab nb cb, .int .i64 ar, .int .i64 F.result.kind, .int .i64 F.result.id, .slice Ar F.result.args.length kr, .slice Al F.locals.length kl, .slice Ak F.blocks.length kk, .slice At nt ct] : Array Value)[j]?) ∧ w''.cell? (ap.add (q * 2)) = some (.int .i64 (p1 : Nat)) ∧ w''.cell? ⟨(ap.add (q * 2)).block, (ap.add (q * 2)).off + 1, none⟩ = some (.int .i64 (p2 : Nat))) w3 := ⟨h3, Bl.le hb3' _ _ c0, Bl.le hb3' _ _ c1⟩
              refine hK _ _ ⟨hS3, ?_⟩
              have HB3 := Lib.hid (Bl.call HB.out hb3')
              have HC3 := Lib.hid (HC.out.call hb3')
              have HBF3 := Lib.hid (HBF.out.below hb3')
              have HR3 := Lib.hid (HR.out.below hb3')
              have HU3 := Lib.hid hu
              have d0 := Bl.le hb3' _ _ c0
              have d1 := Bl.le hb3' _ _ c1
              clear hK K hb3 hb3' hSd HB HC HBF HR hu h3 hcF c0 c1
              refine AnyS.one (i := 12) (by kernel_rfl) ?_
              refine wpOpIn_step rfl (fun K hK => ?_)
              go_simp
              refine ⟨trivial, ?_⟩
              refine (callsIn_wide.2 (following_any _ _ F xss p1 p2 w3 (HF.out _ (Bl.le HB3.out)) HS.out (HR3.out.sets (by rw [HLI.out.len, HNP.out]) (by simp only [maxLen]; omega)) HLI.out.len HLI.out.rows HP.out)).mono ?_
              rintro e w4 ⟨⟨vf, rfl, hvf⟩, hb4⟩
              have h4 := (HBF3.out.below hb4).cell
              rw [HFC.out] at h4
              have hS4 : (fun w'' : World => (∀ j, w''.cell? ⟨bF, j, none⟩ = (#[.string F.name, .int .i64 mo, .int .i64 pa, .slice Ab nb cb, .int .i64 ar, .int .i64 F.result.kind, .int .i64 F.result.id, .slice Ar F.result.args.length kr, .slice Al F.locals.length kl, .slice Ak F.blocks.length kk, .slice At nt ct] : Array Value)[j]?) ∧ w''.cell? (ap.add (q * 2)) = some (.int .i64 (p1 : Nat)) ∧ w''.cell? ⟨(ap.add (q * 2)).block, (ap.add (q * 2)).off + 1, none⟩ = some (.int .i64 (p2 : Nat))) w4 := ⟨h4, Bl.le hb4 _ _ d0, Bl.le hb4 _ _ d1⟩
              refine hK _ _ ⟨hS4, ?_⟩
              have HB4 := Lib.hid (Bl.call HB3.out hb4)
              have HC4 := Lib.hid (HC3.out.call hb4)
              have HBF4 := Lib.hid (HBF3.out.below hb4)
              have HR4 := Lib.hid (HR3.out.below hb4)
              have HU4 := Lib.hid (HU3.out.mono (Bl.le hb4))
              have HVF := Lib.hid (OSet.bools hvf [] (fun _ _ => by simp))
              have f0 := Bl.le hb4 _ _ d0
              have f1 := Bl.le hb4 _ _ d1
              have hbO4 : bO < w4.heap.size := Nat.lt_of_lt_of_le HR3.out.box.lt hb4.size
              clear hK K hb4 hS3 HB3 HC3 HBF3 HR3 HU3 h4 d0 d1 hvf
              refine AnyS.one (i := 13) (by kernel_rfl) ?_
              refine wpOpIn_step rfl (fun K hK => ?_)
              go_simp
              refine ⟨trivial, ?_⟩
              refine (callsIn_wide.2 (rthrough_any vu vf (at_ F (p1, p2)) (followL F xss (p1, p2)) w4 HU4.out (by have := HVF.out; rwa [look_nil] at this) (by rw [followL_len]; omega))).mono ?_
              rintro e w5 ⟨⟨vs, rfl, hvs⟩, hb5⟩
              have h5 := (HBF4.out.below hb5).cell
              rw [HFC.out] at h5
              have hS5 : (fun w'' : World => (∀ j, w''.cell? ⟨bF, j, none⟩ = (#[.string F.name, .int .i64 mo, .int .i64 pa, .slice Ab nb cb, .int .i64 ar, .int .i64 F.result.kind, .int .i64 F.result.id, .slice Ar F.result.args.length kr, .slice Al F.locals.length kl, .slice Ak F.blocks.length kk, .slice At nt ct] : Array Value)[j]?) ∧ w''.cell? (ap.add (q * 2)) = some (.int .i64 (p1 : Nat)) ∧ w''.cell? ⟨(ap.add (q * 2)).block, (ap.add (q * 2)).off + 1, none⟩ = some (.int .i64 (p2 : Nat))) w5 := ⟨h5, Bl.le hb5 _ _ f0, Bl.le hb5 _ _ f1⟩
              refine hK _ _ ⟨hS5, ?_⟩
              have HB5 := Lib.hid (Bl.call HB4.out hb5)
              have HC5 := Lib.hid (HC4.out.call hb5)
              have HBF5 := Lib.hid (HBF4.out.below hb5)
              have HR5 := Lib.hid (HR4.out.below hb5)
              have HVS : Hid (RBools (look [bO] w5) vs (stp F xss (p1, p2))) := OSet.bools hvs [bO] (fun g hg => by
                have := (hvs.box hg).1
                rw [List.mem_singleton]
                omega)
              clear hK K hb5 hS4 HB4 HC4 HBF4 HR4 HU4 HVF h5 f0 f1 hvs hbO4
              (refine AnyS.take (i := 14) (v := ?_) (by kernel_rfl) rfl (by kernel_rfl) (by kernel_rfl) (by kernel_rfl) (fun _ _ _ h => h) (by assumption) ⟨⟨by rfl, ?_⟩, fun _ => rfl⟩ ?_; rotate_left; (rintro w' ⟨hs1, hs2, hs3⟩; go_simp; rfl))
              refine AnyS.done (by kernel_rfl) ?_ _
              clear hS5
              obtain ⟨As, ks, rfl, s1, s2, s3⟩ := HVS.out
              have hrow := HR5.out.row q (by omega)
              obtain ⟨Ar', kr', hve, q1, q2, q3⟩ := id hrow
              have cO := HR5.out.cell (i := q) (by omega) (by omega)
              rw [hve] at cO
              have HROW := Lib.hid hrow
              have HVE := Lib.hid hve
              have hrl : (xss.getD q []).length = F.locals.length := HLI.out.row hqn
              clear s1 s2 s3 q1 q2 q3 hrow hve
              go_wp2_with fail
              clear cO
              refine (same_any _ _ (stp F xss (p1, p2)) (xss.getD q []) w5 (HVS.out.mono monoBool (look_le _ _)) (by have h9 := HROW.out.mono monoBool (look_le _ _); rw [HVE.out] at h9; simpa using h9)).mono ?_
              rintro e w6 ⟨rfl, hb6⟩
              have HB6 := Lib.hid (Bl.call HB5.out hb6)
              have HC6 := Lib.hid (HC5.out.call hb6)
              have HBF6 := Lib.hid (HBF5.out.below hb6)
              have HR6 := Lib.hid (HR5.out.below hb6)
              have HVS6 := Lib.hid (HVS.out.mono monoBool (Chg.of_below hb6 [bO]).le)
              clear hb6 HB5 HC5 HBF5 HR5 HVS HROW HVE
              by_cases hst : stp F xss (p1, p2) = xss.getD q []
              · have hd : decide (stp F xss (p1, p2) = xss.getD q []) = true := by simp [hst]
                rw [hd]
                have HJN : Hid (RBJ F k cc w W2 bF bO FC (.bool b) (.int .i64 ((q : Int) - 1)) w6) :=
                  ⟨b, vals, xss, q, rfl, rfl, by omega, HLI.out, hc0, HBT.out, (fun hb j h1 h2 => by
                    by_cases e : j = q
                    · rw [e, HPE.out]
                      exact hst
                    · exact hbf'.out hb j (by omega) h2), HB6, HC6, HBF6, HR6⟩
                clear hd hst hrl HB6 HC6 HBF6 HR6
                go_wp2_with fail
                go_roundw
                case rel =>
                  have := HJN.out
                  simpa using this
                case measure => simp [intOf]
              · have hd : decide (stp F xss (p1, p2) = xss.getD q []) = false := decide_eq_false hst
                rw [hd]
                have hmore := HLI.out.more HP.out (by rw [HIX.out]; exact hst)
                have hstep := HLI.out.step HP.out
                rw [HIX.out] at hmore hstep
                have HJN : ∀ w7, w7 = w6.setCell ⟨bO, q, none⟩ (.slice As (stp F xss (p1, p2)).length ks) → Hid (RBJ F k cc w W2 bF bO FC (.bool true) (.int .i64 ((q : Int) - 1)) w7) := fun w7 e => by
                  subst e
                  show RBJ _ _ _ _ _ _ _ _ _ _ _
                  refine ⟨true, upd vals q (.slice As (stp F xss (p1, p2)).length ks), xss.set q (stp F xss (p1, p2)), q, rfl, rfl, by omega, hstep, by omega, fun _ => by omega, (fun h => by cases h), Bl.set HB6.out hbO2 _, HC6.out.put (.inl (by simp)) _, HBF6.out.far (by simpa using hne) _, ?_⟩
                  refine HR6.out.put (i := q) (by omega) (by omega) (.inr (by omega)) (by rw [if_pos (by omega)]) (s := stp F xss (p1, p2)) ?_ (fun j hj => ?_) HVS6.out
                  · rw [getD_set _ _ _ _ _ (by rw [HLI.out.len]; exact hqn), if_pos rfl]
                  · rw [getD_set _ _ _ _ _ (by rw [HLI.out.len]; exact hqn), if_neg hj]
                have cO := HR6.out.cell (i := q) (by omega) (by omega)
                have fO := HR6.out.box.frozen q
                have HJ7 := Lib.hid HJN
                clear hd hst hrl hmore hstep HB6 HC6 HBF6 HR6 HVS6 HJN
                go_wp2_with fail
                go_roundw
                case rel =>
                  have := (HJ7.out _ rfl).out
                  simpa using this
                case measure => simp [intOf]
            · obtain rfl : m = 0 := by omega
              have HNEW : ∀ w', w' = wr → ∃ n', RBI F k w W2 bF bO FC (.bool b) w' n' ∧ n' < 2 * (k * F.locals.length - cc) + 1 := fun w' e => by
                subst e
                refine ⟨_, ⟨b, vals, xss, rfl, HL, fun h i hi => hbf h i (Nat.zero_le _) hi, rfl, HB, HC, HBF, HR⟩, ?_⟩
                have hcb2 := HL.bound
                rw [← HNP.out] at hcb2
                cases b with
                | false => simp; omega
                | true =>
                  have := hbt rfl
                  simp
                  omega
              have HNW := Lib.hid HNEW
              clear HNEW HL hbt hbf HB HC HBF HR
              go_wp2_with fail
              go_roundw
              case rel =>
                obtain ⟨n', h1, _⟩ := HNW.out _ rfl
                exact ⟨n', h1⟩
              case measure =>
                obtain ⟨n', h1, h2⟩ := HNW.out _ rfl
                refine Nat.lt_of_le_of_lt ((leastOf_spec (p := fun n => RBI F k w W2 bF bO FC _ _ n) h1).2 n' h1) ?_
                rw [← HN.out] at h2
                exact h2
end Go.Proofs.YtdkjkgokllmkmaaGreatDoor.Lv
