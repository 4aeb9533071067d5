/- Walks: flat, Before, After of package liveness. -/
import Derived.Test.YtdkjkgokllmkmaaGreatDoorLwe
namespace Go.Proofs.YtdkjkgokllmkmaaGreatDoor.Lv
open Go.RowKit
set_option linter.unusedVariables false
set_option linter.unusedSimpArgs false
theorem Tryz.info38 : (Tryz.prog.info? 38).map (fun i => (i.zero, i.size, i.bytes)) = some (some (.slice none 0 0), 1, 24) := by kernel_rfl
/-- A list of the call's own of sets that lie elsewhere. -/
def OVs (base : Nat) (w0 w : World) (v : Value) (xss : List (List Bool)) : Prop := ∃ vals, w.ownsRow base 38 1 v xss.length vals ∧ ∀ (i : Nat) (x : List Bool), xss[i]? = some x → ∃ u, vals[i]? = some u ∧ RBools w0.cell? u x
theorem OVs.nil (base : Nat) (w0 w : World) : OVs base w0 w (.slice none 0 0) [] := ⟨[], World.ownsRow_nil w base 38 1, fun i x h => by simp at h⟩
theorem OVs.below {base : Nat} {w0 w w' : World} {v : Value} {xss : List (List Bool)} (h : OVs base w0 w v xss) (hb : Below w.heap.size w w') : OVs base w0 w' v xss := by
  obtain ⟨vals, h1, h2⟩ := h
  exact ⟨vals, own_below h1 hb, h2⟩
theorem OVs.read {base : Nat} {w0 w : World} {v : Value} {xss : List (List Bool)} (h : OVs base w0 w v xss) (hb : Below w0.heap.size w0 w) : RSets w.cell? v xss := by
  obtain ⟨vals, h1, h2⟩ := h
  rw [← look_nil]
  refine RSl.of_own [] h1 (fun _ _ => by simp) (fun j x hj => ?_)
  obtain ⟨u, hu, hr⟩ := h2 j x hj
  refine ⟨u, ?_, ?_⟩
  · rw [Nat.mul_one]
    exact (take1_map id vals j u hu |> fun h => by simpa using h)
  · rw [look_nil]
    exact hr.mono monoBool (Bl.le hb)
theorem OVs.snoc {base : Nat} {w0 w : World} {v u : Value} {xss : List (List Bool)} {x : List Bool} {vals : List Value} {n : Nat} (hn : n = xss.length + 1) (h1 : w.ownsRow base 38 1 v n (vals ++ [u])) (hl : vals.length = xss.length)
    (h2 : ∀ (i : Nat) (x : List Bool), xss[i]? = some x → ∃ u, vals[i]? = some u ∧ RBools w0.cell? u x) (hu : RBools w0.cell? u x) : OVs base w0 w v (xss ++ [x]) := by
  subst hn
  refine ⟨vals ++ [u], by rw [List.length_append]; exact h1, fun i y hy => ?_⟩
  by_cases hi : i < xss.length
  · rw [List.getElem?_append_left hi] at hy
    obtain ⟨q, hq, hr⟩ := h2 i y hy
    exact ⟨q, by rw [List.getElem?_append_left (by omega)]; exact hq, hr⟩
  · have hil := (List.getElem?_eq_some_iff.1 hy).1
    rw [List.length_append, List.length_cons, List.length_nil] at hil
    obtain rfl : i = xss.length := by omega
    rw [List.getElem?_append_right (Nat.le_refl _), Nat.sub_self] at hy
    simp only [List.getElem?_cons_zero, Option.some.injEq] at hy
    subst hy
    exact ⟨u, by rw [← hl, List.getElem?_append_right (Nat.le_refl _), Nat.sub_self]; rfl, hu⟩
theorem Bl.grown {w W W' : World} {row : Option Nat} (h : Below w.heap.size w W) (hg : W.grownBy W' row) (hr : ∀ k, row = some k → w.heap.size ≤ k) : Below w.heap.size w W' :=
  h.trans ⟨hg.os, hg.tape, hg.output, hg.size, fun k hk => hg.block k (Nat.lt_of_lt_of_le hk h.size) (fun e => by have := hr k e.symm; omega)⟩
def cutL (first : Nat) (r : List (List Bool)) : List (List Bool) := (r.drop first).take (r.length - 1)
def flatL (first : Nat) (S : List (List (List Bool))) : List (List Bool) := S.flatMap (cutL first)
theorem cutL_len (first : Nat) (r : List (List Bool)) (h : first ≤ 1) : (cutL first r).length = r.length - 1 := by
  unfold cutL
  rw [List.length_take, List.length_drop]
  omega
theorem cutL_get (first : Nat) (r : List (List Bool)) (m : Nat) (hf : first ≤ 1) (hm : m < r.length - 1) : (cutL first r)[m]? = r[first + m]? := by
  unfold cutL
  rw [List.getElem?_take, if_pos hm, List.getElem?_drop]
theorem flatL_snoc (first : Nat) (S : List (List (List Bool))) (r : List (List Bool)) : flatL first (S ++ [r]) = flatL first S ++ cutL first r := by simp [flatL]
theorem flatL_len (first : Nat) (hf : first ≤ 1) : ∀ S : List (List (List Bool)), (∀ r, r ∈ S → r.length ≤ 1000) → (flatL first S).length ≤ S.length * 1000
  | [], _ => by simp [flatL]
  | r :: S, h => by
    have := flatL_len first hf S (fun x hx => h x (List.mem_cons_of_mem _ hx))
    have h2 := h r (by simp)
    have h3 := cutL_len first r hf
    have e : flatL first (r :: S) = cutL first r ++ flatL first S := rfl
    rw [e, List.length_append, List.length_cons, Nat.succ_mul]
    omega
set_option maxHeartbeats 4000000 in
set_option maxRecDepth 100000 in
theorem flat_any (vl : Value) (S : List (List (List Bool))) (first : Nat) (w : World) (h : RSets3 w.cell? vl S) (hf : first ≤ 1) (hS : S.length ≤ 1000) (hr : ∀ r, r ∈ S → 2 ≤ r.length ∧ r.length ≤ 1000) :
    Calls Tryz.prog 33 #[vl, .int .i64 first] w fun e w' => (∃ vp, e = .returned vp ∧ RSets w'.cell? vp (flatL first S)) ∧ Below w.heap.size w w' := by
  obtain ⟨A, k, rfl, h1, h2, h3⟩ := h
  have HS := Lib.hid h3
  have HR := Lib.hid hr
  clear h3 hr
  obtain ⟨i0, hi0, hz0, hz1, hz2⟩ := info_parts Tryz.info38
  go_enter Tryz.func33, Tryz.ntmps33
  go_wp2_with fail
  go_loopw [5, 12] (fun v i wr => ∃ (j : Nat), i = .int .i64 j ∧ j ≤ S.length ∧ Hid (Below w.heap.size w wr) ∧ Hid (OVs w.heap.size w wr v (flatL first (S.take j)))) (fun _ i _ => S.length - (intOf i).toNat)
  case atStart => exact ⟨0, rfl, Nat.zero_le _, Below.refl _ _, OVs.nil _ _ _⟩
  case round =>
    obtain ⟨j, rfl, hj, HB, HO⟩ := hrel
    by_cases hjl : j < S.length
    · have hji : (j : Int) < (S.length : Int) := by omega
      obtain ⟨ad, es, rfl, hes, ⟨vr, rfl, ⟨B, kr, rfl, r1, r2, r3⟩⟩, hcell⟩ := HS.out j _ (List.getElem?_eq_getElem hjl)
      have c0 := Bl.le HB.out _ _ (hcell 0 _ rfl)
      obtain ⟨row, hrow⟩ : ∃ row, row = S[j] := ⟨_, rfl⟩
      rw [← hrow] at c0 r1 r3
      have hrl := HR.out S[j] (List.getElem_mem hjl)
      rw [← hrow] at hrl
      have HT : Hid (flatL first (S.take (j + 1)) = flatL first (S.take j) ++ cutL first row) := by
        show flatL _ _ = _
        rw [List.take_succ_eq_append_getElem hjl, flatL_snoc, hrow]
      obtain ⟨adr, _, rfl, _⟩ := r3 0 _ (List.getElem?_eq_getElem (by omega))
      have hfl : (flatL first (S.take j)).length ≤ 1000000 := by
        have := flatL_len first hf (S.take j) (fun r hr => (HR.out r (List.mem_of_mem_take hr)).2)
        rw [List.length_take] at this
        omega
      have HROW := Lib.hid hrow
      have HR3 := Lib.hid r3
      obtain ⟨n, hn⟩ : ∃ n, row.length = n + 1 := ⟨row.length - 1, by omega⟩
      rw [hn] at c0 r1 hrl
      have HNR := Lib.hid hn
      clear hn
      have hkr : ¬ kr = first := by omega
      clear hcell r3 hrow
      simp only [Nat.mul_one, Nat.add_zero] at c0
      go_wp2_with fail
      simp only [Nat.add_sub_cancel]
      clear c0
      obtain ⟨xs0, hxs0⟩ : ∃ xs0, xs0 = flatL first (S.take j) := ⟨_, rfl⟩
      rw [← hxs0] at HO HT hfl
      clear hxs0
      go_loopw [5, 25] (fun v i wr => ∃ (m : Nat), i = .int .i64 m ∧ m ≤ n ∧ Hid (Below w.heap.size w wr) ∧ Hid (OVs w.heap.size w wr v (xs0 ++ (cutL first row).take m))) (fun _ i _ => n - (intOf i).toNat)
      case atStart => exact ⟨0, rfl, Nat.zero_le _, HB, (by rw [List.take_zero, List.append_nil]; exact HO)⟩
      case round =>
        clear HB HO
        obtain ⟨m, rfl, hm, HB, HO⟩ := hrel
        by_cases hml : m < n
        · have hmi : (m : Int) < (n : Int) := by omega
          have hrn := HNR.out
          have hfm : first + m < row.length := by omega
          obtain ⟨ad', es', e', hes', ⟨vs, rfl, hvs⟩, hcell'⟩ := HR3.out (first + m) _ (List.getElem?_eq_getElem hfm)
          simp only [Option.some.injEq] at e'
          subst e'
          have c1 := Bl.le HB.out _ _ (hcell' 0 _ rfl)
          rw [show (first + m) * 1 + 0 = first + m by omega, ← Addr.add_add] at c1
          have HVS := Lib.hid hvs
          obtain ⟨As, ks, rfl, _⟩ := hvs
          have HG : Hid ((cutL first row).take (m + 1) = (cutL first row).take m ++ [row[first + m]]) := by
            show List.take _ _ = _
            have hcl : m < (cutL first row).length := by rw [cutL_len _ _ hf]; omega
            rw [List.take_succ_eq_append_getElem hcl]
            congr 2
            have := cutL_get first row m hf (by omega)
            rw [List.getElem?_eq_getElem hcl, List.getElem?_eq_getElem hfm] at this
            exact Option.some.inj this
          obtain ⟨vals, hown, hvals⟩ := HO.out
          have HOW := Lib.hid hown
          have HVL := Lib.hid hvals
          have hlen : (xs0 ++ (cutL first row).take m).length ≤ 1001000 := by
            rw [List.length_append, List.length_take]
            omega
          have hbs : w.heap.size ≤ wr.heap.size := HB.out.size
          clear hown hvals hcell' HO hrn
          go_wp2_with (at_builtin; refine wpList_append_own_at _ rfl _ _ 33 rfl w.heap.size 38 i0 (.slice none 0 0) 1 24 Tryz.underlying33 hi0 hz0 hz1 hz2 rfl (by decide) _ _ _ rfl (HOW.out.alloc _) ⟨wr.heap.size, 0, none⟩ 1 1 [_] rfl rfl (cell_one_new _ _ _) (by simp [Value.oneCell']) (by unfold maxLen; omega) (by omega) (by simp; omega) ?_; intro v' w1 hown1 hgrow _ hat)
          have HG1 := Lib.hid hgrow
          have HO1 := Lib.hid hown1
          have HA1 := Lib.hid hat
          clear hgrow hown1 hat
          go_roundw
          case rel =>
            refine ⟨m + 1, by go_num, by omega, ?_, ?_⟩
            · exact Bl.grown (Bl.alloc HB.out _) HG1.out (fun q hq => (HOW.out.lt q hq).1)
            · rw [HG.out, ← List.append_assoc]
              exact OVs.snoc rfl HO1.out (by have := HOW.out.1; simpa using this) HVL.out HVS.out
          case measure => simp [intOf]; omega
        · obtain rfl : m = n := by omega
          have HO1 : Hid (OVs w.heap.size w wr u5 (flatL first (S.take (j + 1)))) := by
            rw [HT.out]
            have := HO.out
            rwa [List.take_of_length_le (by rw [cutL_len _ _ hf, HNR.out]; omega)] at this
          go_wp2_with fail
          go_roundw
          case rel => exact ⟨j + 1, by go_num, by omega, HB, HO1⟩
          case measure => simp [intOf]; omega
    · obtain rfl : j = S.length := by omega
      go_wp2_with fail
      go_ret
      have := HO.out
      rw [List.take_length] at this
      exact ⟨⟨_, rfl, this.read HB.out⟩, HB.out⟩
theorem solveL_len (F : Fn) : (solveL F).length = F.blocks.length := by simp [solveL]
theorem solveL_rows {F : Fn} (hs : Szd F) : ∀ r, r ∈ solveL F → 2 ≤ r.length ∧ r.length ≤ 1000 := by
  intro r hr
  obtain ⟨b, hb, rfl⟩ := List.mem_map.1 hr
  have := hs.code (F.blk b) (getD_mem (List.mem_range.1 hb))
  simp
  omega
theorem ptsFrom_eq (F : Fn) (f : Nat × Nat → List Bool) : ∀ (l : List Blk) (b : Nat), (ptsFrom b l).map f = (List.range l.length).flatMap fun i => (List.range ((l.getD i default).code.length + 1)).map fun k => f (b + i, k)
  | [], b => by simp [ptsFrom]
  | B :: l, b => by
    have ih := ptsFrom_eq F f l (b + 1)
    have e : (B :: l).length = l.length + 1 := rfl
    rw [ptsFrom, List.map_append, ih, e, List.range_succ_eq_map, List.flatMap_cons, List.flatMap_map]
    congr 1
    · simp [ptsB]
    · congr 1
      funext i
      simp [Nat.add_assoc, Nat.add_comm 1 i]
theorem flat_before (F : Fn) : flatL 0 (solveL F) = before F := by
  unfold before pts
  rw [ptsFrom_eq F]
  unfold flatL solveL
  rw [List.flatMap_map]
  show _ = (List.range F.blocks.length).flatMap _
  congr 1
  funext b
  unfold cutL
  rw [List.drop_zero, List.length_map, List.length_range, ← List.map_take, List.take_range]
  have e : min ((F.blk b).code.length + 2 - 1) ((F.blk b).code.length + 2) = (F.blk b).code.length + 1 := by omega
  rw [e, Nat.zero_add]
  refine List.map_congr_left fun k hk => ?_
  have hk' := List.mem_range.1 hk
  unfold solveS
  refine List.map_congr_left fun v _ => ?_
  rw [if_pos (by omega)]
theorem flat_after (F : Fn) : flatL 1 (solveL F) = after F := by
  unfold after pts
  rw [ptsFrom_eq F]
  unfold flatL solveL
  rw [List.flatMap_map]
  show _ = (List.range F.blocks.length).flatMap _
  congr 1
  funext b
  unfold cutL
  rw [List.length_map, List.length_range, ← List.map_drop, ← List.map_take]
  have e : ((List.range ((F.blk b).code.length + 2)).drop 1).take ((F.blk b).code.length + 2 - 1) = (List.range ((F.blk b).code.length + 1)).map (· + 1) := by
    rw [List.range_succ_eq_map, List.drop_succ_cons, List.drop_zero]
    exact List.take_of_length_le (by simp)
  rw [e, List.map_map, Nat.zero_add]
  refine List.map_congr_left fun k hk => ?_
  have hk' := List.mem_range.1 hk
  show solveS F b (k + 1) = _
  unfold solveS
  refine List.map_congr_left fun v _ => ?_
  by_cases h : k + 1 ≤ (F.blk b).code.length
  · rw [if_pos h]
    show liveB F (b, k + 1) v = afterB F (b, k) v
    unfold afterB
    rw [next_in _ _ _ (by omega)]
    simp
  · obtain rfl : k = (F.blk b).code.length := by
      have : (F.blk b).code.length = ((F.blocks.getD b default).code.length) := rfl
      omega
    rw [if_neg h]
set_option maxHeartbeats 2000000 in
set_option maxRecDepth 100000 in
theorem before_any (v : Value) (F : Fn) (w : World) (hF : RFn w.cell? v F) (hs : Szd F) :
    Calls Tryz.prog 12 #[v] w fun e w' => (∃ vp, e = .returned vp ∧ RSets w'.cell? vp (before F)) ∧ Below w.heap.size w w' := by
  obtain ⟨mo, pa, ar, vb, vr, vl', vk, vt, Ab, At, nb, cb, nt, ct, rfl, rfl, rfl, m1, m2, ⟨Ar, kr, rfl, hr1, hr2, hr3⟩, ⟨Al, kl, rfl, h1, h2, hL⟩, ⟨Ak, kk, rfl, hk1, hk2, hk3⟩⟩ := id hF
  have HF := Lib.hid (fun c (hc : Le w.cell? c) => hF.mono hc)
  have HS := Lib.hid hs
  clear hF hr3 hL hk3 hs
  go_enter Tryz.func12, Tryz.ntmps12
  go_wp2_with fail
  refine (solve_any _ F _ (HF.out _ (Bl.le (by repeat (first | apply Bl.alloc | exact Below.refl _ _)))) HS.out).mono ?_
  rintro e w1 ⟨⟨vp, rfl, hp⟩, hb1⟩
  have HP := Lib.hid hp
  have HB1 := Lib.hid (Bl.call (w := w) (by repeat (first | apply Bl.alloc | exact Below.refl _ _)) hb1)
  clear hp hb1
  go_wp2_with fail
  refine (flat_any vp (solveL F) 0 w1 HP.out (by omega) (by rw [solveL_len]; have := HS.out.blocks; omega) (solveL_rows HS.out)).mono ?_
  rintro e w2 ⟨⟨vq, rfl, hq⟩, hb2⟩
  have HQ := Lib.hid hq
  have HB2 := Lib.hid (Bl.call HB1.out hb2)
  clear hq hb2
  go_wp2_with fail
  go_ret
  exact ⟨⟨_, rfl, by rw [← flat_before]; exact HQ.out⟩, HB2.out⟩
set_option maxHeartbeats 2000000 in
set_option maxRecDepth 100000 in
theorem after_any (v : Value) (F : Fn) (w : World) (hF : RFn w.cell? v F) (hs : Szd F) :
    Calls Tryz.prog 14 #[v] w fun e w' => (∃ vp, e = .returned vp ∧ RSets w'.cell? vp (after F)) ∧ Below w.heap.size w w' := by
  obtain ⟨mo, pa, ar, vb, vr, vl', vk, vt, Ab, At, nb, cb, nt, ct, rfl, rfl, rfl, m1, m2, ⟨Ar, kr, rfl, hr1, hr2, hr3⟩, ⟨Al, kl, rfl, h1, h2, hL⟩, ⟨Ak, kk, rfl, hk1, hk2, hk3⟩⟩ := id hF
  have HF := Lib.hid (fun c (hc : Le w.cell? c) => hF.mono hc)
  have HS := Lib.hid hs
  clear hF hr3 hL hk3 hs
  go_enter Tryz.func14, Tryz.ntmps14
  go_wp2_with fail
  refine (solve_any _ F _ (HF.out _ (Bl.le (by repeat (first | apply Bl.alloc | exact Below.refl _ _)))) HS.out).mono ?_
  rintro e w1 ⟨⟨vp, rfl, hp⟩, hb1⟩
  have HP := Lib.hid hp
  have HB1 := Lib.hid (Bl.call (w := w) (by repeat (first | apply Bl.alloc | exact Below.refl _ _)) hb1)
  clear hp hb1
  go_wp2_with fail
  refine (flat_any vp (solveL F) 1 w1 HP.out (by omega) (by rw [solveL_len]; have := HS.out.blocks; omega) (solveL_rows HS.out)).mono ?_
  rintro e w2 ⟨⟨vq, rfl, hq⟩, hb2⟩
  have HQ := Lib.hid hq
  have HB2 := Lib.hid (Bl.call HB1.out hb2)
  clear hq hb2
  go_wp2_with fail
  go_ret
  exact ⟨⟨_, rfl, by rw [← flat_after]; exact HQ.out⟩, HB2.out⟩
end Go.Proofs.YtdkjkgokllmkmaaGreatDoor.Lv
