/- Walks: After of the reference. -/
import Derived.Test.YtdkjkgokllmkmaaGreatDoorLxv
import Derived.Test.YtdkjkgokllmkmaaGreatDoorLxa
namespace Go.Proofs.YtdkjkgokllmkmaaGreatDoor.Lv
open Go.RowKit
set_option linter.unusedVariables false
set_option linter.unusedSimpArgs false
section
variable {md : Region.Mode} {ops : Array Oper} {Q : Exit → Act → World → Prop}
theorem wpOp_append {i : Nat} {o : Oper} {K : Act → World → Prop} {a : Act} {w : World} (hoi : ops[i]? = some o) (hw : ∀ t, Region.wanted o t = true) (s x : Operand) (t : TypeId)
    (ho : o.op = .call { callee := .builtin .append, args := #[s, x], argTypes := #[t, t] })
    (base : Nat) (e : TypeId) (i0 : TypeInfo) (z : Value) (size bytes : Nat) (ht : Tryz.prog.underlying t = some (.slice e)) (hi : Tryz.prog.info? e = some i0) (hz : i0.zero = some z)
    (hsize : i0.size = size) (hby : i0.bytes = bytes) (hzs : z.cells.size = size) (hsz : 0 < size)
    (v : Value) (n : Nat) (xs : List Value) (hs : a.eval s = v) (hown : w.ownsRow base e size v n xs)
    (ad : Addr) (m c : Nat) (news : List Value) (hx : a.eval x = .slice (some ad) m c) (hl : news.length = m * size) (hnews : ∀ j u, news[j]? = some u → w.cell? (ad.add j) = some u) (h1 : ∀ u ∈ news, u.oneCell' = true)
    (h63 : n + m ≤ maxLen) (hbytes : (n + m) * bytes ≤ 140737488355328) (hbase : base ≤ w.heap.size)
    (h : ∀ v' w', w'.ownsRow base e size v' (n + m) (xs ++ news) → w.grownBy w' v.ownBlock → (v'.ownBlock = v.ownBlock ∨ v'.ownBlock = some w.heap.size) → K (a.put o.dst v') w') : wpOpIn Fence.wide 100 Tryz.prog ops Q i K a w := by
  obtain ⟨v', w', hr, h2, h3, h4, h5⟩ := run_append_own_at (P := Tryz.prog) w base t o.type e i0 z size bytes ht hi hz hsize hby hzs hsz v n xs hown ad m c news hl hnews h1 h63 hbytes hbase
  refine wpOp_value (v := v') (w' := w') hoi hw (fun c hc => by rw [ho] at hc; cases hc) ?_ (h v' w' h2 h3 h5)
  unfold execOp
  simp only [ho, resolve, invoke, builtin, Sem.run_bind, Sem.run_pure, Result.andThen_ok, List.map_toArray, List.map_cons, List.map_nil, hs, hx, hr]
end
/-- A list of the call's own of sets of the call's own. -/
def OV2 (base : Nat) (w : World) (v : Value) (xss : List (List Bool)) : Prop := ∃ vals, w.ownsRow base 38 1 v xss.length vals ∧ ∀ (i : Nat) (x : List Bool), xss[i]? = some x → ∃ u, vals[i]? = some u ∧ OSet base w u x
theorem OV2.nil (base : Nat) (w : World) : OV2 base w (.slice none 0 0) [] := ⟨[], World.ownsRow_nil w base 38 1, fun i x h => by simp at h⟩
theorem OV2.below {base : Nat} {w w' : World} {v : Value} {xss : List (List Bool)} (h : OV2 base w v xss) (hb : Below w.heap.size w w') : OV2 base w' v xss := by
  obtain ⟨vals, h1, h2⟩ := h
  refine ⟨vals, own_below h1 hb, fun i x hx => ?_⟩
  obtain ⟨u, hu, ho⟩ := h2 i x hx
  exact ⟨u, hu, ho.below hb⟩
theorem OV2.read {base : Nat} {w : World} {v : Value} {xss : List (List Bool)} (h : OV2 base w v xss) : RSets w.cell? v xss := by
  obtain ⟨vals, h1, h2⟩ := h
  rw [← look_nil]
  refine RSl.of_own [] h1 (fun _ _ => by simp) (fun j x hj => ?_)
  obtain ⟨u, hu, hr⟩ := h2 j x hj
  refine ⟨u, ?_, ?_⟩
  · rw [Nat.mul_one]
    exact (take1_map id vals j u hu |> fun h => by simpa using h)
  · exact hr.bools [] (fun _ _ => by simp)
theorem OSet.kept' {base : Nat} {w w' : World} {u v : Value} {x : List Bool} {n : Nat} {vals : List Value} (h : OSet base w u x) (hv : w.ownsRow base 38 1 v n vals) (hg : w.grownBy w' v.ownBlock) : OSet base w' u x := by
  refine World.ownsRow.kept h hg ?_
  cases hu : u.ownBlock with
  | none => exact .inl rfl
  | some g =>
    obtain ⟨_, cs, hb⟩ := h.box hu
    exact .inr (hb.not_row hv (by decide))
theorem OV2.snoc {base : Nat} {w w' : World} {v v' u : Value} {xss : List (List Bool)} {x : List Bool} {vals : List Value} (h1 : w.ownsRow base 38 1 v xss.length vals) (hl : vals.length = xss.length)
    (h2 : ∀ (i : Nat) (x : List Bool), xss[i]? = some x → ∃ u, vals[i]? = some u ∧ OSet base w u x) (hu : OSet base w u x) (ho : w'.ownsRow base 38 1 v' (xss.length + 1) (vals ++ [u])) (hg : w.grownBy w' v.ownBlock) : OV2 base w' v' (xss ++ [x]) := by
  refine ⟨vals ++ [u], by rw [List.length_append]; exact ho, fun i y hy => ?_⟩
  by_cases hi : i < xss.length
  · rw [List.getElem?_append_left hi] at hy
    obtain ⟨q, hq, hr⟩ := h2 i y hy
    exact ⟨q, by rw [List.getElem?_append_left (by omega)]; exact hq, hr.kept' h1 hg⟩
  · have hil := (List.getElem?_eq_some_iff.1 hy).1
    rw [List.length_append, List.length_cons, List.length_nil] at hil
    obtain rfl : i = xss.length := by omega
    rw [List.getElem?_append_right (Nat.le_refl _), Nat.sub_self] at hy
    simp only [List.getElem?_cons_zero, Option.some.injEq] at hy
    subst hy
    exact ⟨u, by rw [← hl, List.getElem?_append_right (Nat.le_refl _), Nat.sub_self]; rfl, hu.kept' h1 hg⟩
theorem after_row {F : Fn} {k : Nat} (hk : k < (pts F).length) : followL F (before F) ((pts F).getD k (0, 0)) = (after F).getD k [] := by
  have hl : ((after F).getD k []).length = F.locals.length := after_rows _ (by rw [List.getD_eq_getElem?_getD, List.getElem?_eq_getElem (by rw [after_len]; exact hk)]; exact List.getElem_mem _)
  refine bool_lists (by rw [followL_len, hl]) fun v hv => ?_
  rw [followL_len] at hv
  rw [followL_get _ _ _ _ hv, after_at hk hv]
  unfold afterB
  have hp := pts_at hk
  rw [Bool.eq_iff_iff, List.any_eq_true, List.any_eq_true]
  constructor
  · rintro ⟨q, hq, h⟩
    rw [before_idx (next_pt hp hq) hv] at h
    exact ⟨q, hq, h⟩
  · rintro ⟨q, hq, h⟩
    exact ⟨q, hq, by rw [before_idx (next_pt hp hq) hv]; exact h⟩
set_option maxHeartbeats 16000000 in
set_option maxRecDepth 100000 in
theorem rafter_any (v : Value) (F : Fn) (w : World) (hF : RFn w.cell? v F) (hs : Szd F) :
    Calls Tryz.prog 15 #[v] w fun e w' => (∃ vp, e = .returned vp ∧ RSets w'.cell? vp (after F)) ∧ Below w.heap.size w w' := by
  obtain ⟨mo, pa, ar, vb, vr, vl', vk, vt, Ab, At, nb, cb, nt, ct, rfl, rfl, rfl, m1, m2, ⟨Ar, kr, rfl, hr1, hr2, hr3⟩, ⟨Al, kl, rfl, g1, g2, hL⟩, ⟨Ak, kk, rfl, hk1, hk2, hk3⟩⟩ := id hF
  have hll := hs.locals
  have HF := Lib.hid (fun c (hc : Le w.cell? c) => hF.mono hc)
  have HS := Lib.hid hs
  clear hF hr3 hL hk3 hs
  obtain ⟨i0, hi0, hz0, hz1, hz2⟩ := info_parts Tryz.info38
  go_enter Tryz.func15, Tryz.ntmps15
  go_wp2_with fail
  obtain ⟨FC, hFC⟩ : ∃ FC : Array Value, FC = #[.string F.name, .int .i64 mo, .int .i64 pa, .slice Ab nb cb, .int .i64 ar, .int .i64 F.result.kind, .int .i64 F.result.id, .slice Ar F.result.args.length kr, .slice Al F.locals.length kl, .slice Ak F.blocks.length kk, .slice At nt ct] := ⟨_, rfl⟩
  obtain ⟨bF, hbF⟩ : ∃ bF, bF = w.heap.size := ⟨_, rfl⟩
  rw [← hbF]
  generalize hW : World.alloc _ _ = W
  have HB0 : Hid (Below w.heap.size w W) := by rw [← hW]; exact Bl.alloc (Below.refl _ _) _
  have HBF0 : Hid (Bx W bF 29 FC) := by
    show Bx _ _ _ _
    rw [← hW, hFC]
    exact Bx.at0 _ _ _ hbF
  have HFC := Lib.hid hFC
  clear hW hbF hFC
  refine (points_any _ F W (HF.out _ (Bl.le HB0.out)) HS.out).mono ?_
  rintro e w1 ⟨⟨vp, rfl, hvp⟩, hb1⟩
  have HB1 := Lib.hid (Bl.call HB0.out hb1)
  have HBF1 := Lib.hid (HBF0.out.below hb1)
  obtain ⟨XP, kP, rfl, xp1, xp2, xp3⟩ := hvp
  have HXP := Lib.hid xp3
  have hnb : (pts F).length ≤ 1000 := by
    have h1 := offs_le F HS.out F.blocks.length (Nat.le_refl _)
    have h2 := HS.out.blocks
    rw [pts_len]
    omega
  obtain ⟨np, hnp⟩ : ∃ np, np = (pts F).length := ⟨_, rfl⟩
  rw [← hnp] at hnb ⊢
  have HNP := Lib.hid hnp
  have hcF := HBF1.out.cell
  rw [HFC.out] at hcF
  clear hb1 HB0 HBF0 xp1 xp2 xp3 hnp
  go_wp2_with fail
  clear hcF
  refine (rbefore_any _ F w1 (HF.out _ (Bl.le HB1.out)) HS.out).mono ?_
  rintro e w2 ⟨⟨vb, rfl, hvb⟩, hb2⟩
  have HB2 := Lib.hid (Bl.call HB1.out hb2)
  have HBF2 := Lib.hid (HBF1.out.below hb2)
  have HXP2 := Lib.hid (HXP.out.mono monoPt (Bl.le hb2))
  have HVB := Lib.hid hvb
  have HB2s := Lib.hid HB2.out.size
  clear hb2 HB1 HBF1 HXP hvb
  go_wp2_with fail
  go_loopw [5, 6] (fun o i wr => ∃ (k : Nat), i = .int .i64 k ∧ k ≤ np ∧ Hid (Below w.heap.size w wr) ∧ Hid (Below w2.heap.size w2 wr) ∧ Hid (Bx wr bF 29 FC) ∧ Hid (OV2 w2.heap.size wr o ((after F).take k))) (fun _ i _ => np - (intOf i).toNat)
  case atStart => exact ⟨0, rfl, Nat.zero_le _, HB2, Below.refl _ _, HBF2, OV2.nil _ _⟩
  case round =>
    clear HB2 HBF2
    obtain ⟨k, rfl, hk, HB, HC, HBF, HO⟩ := hrel
    by_cases hkn : k < np
    · have hki : (k : Int) < (np : Int) := by omega
      have hkp : k < (pts F).length := by rw [← HNP.out]; exact hkn
      obtain ⟨ap, rfl, e0, e1⟩ := HXP2.out.pt_at k hkp
      have c0 := Bl.le HC.out _ _ e0
      have c1 := Bl.le HC.out _ _ e1
      have hp := pts_at hkp
      have hrow := after_row hkp
      obtain ⟨p1, p2, hpe⟩ : ∃ p1 p2, (pts F).getD k (0, 0) = (p1, p2) := ⟨_, _, rfl⟩
      rw [hpe] at e0 e1 c0 c1 hp hrow
      simp only at e0 e1 c0 c1
      have HE0 := Lib.hid e0
      have HE1 := Lib.hid e1
      clear e0 e1
      have HP := Lib.hid hp
      have HT : Hid ((after F).take (k + 1) = (after F).take k ++ [followL F (before F) (p1, p2)]) := by
        show List.take _ _ = _
        rw [take_snoc _ _ [] (by rw [after_len]; exact hkp), hrow]
      obtain ⟨xs, hxs⟩ : ∃ xs, xs = (after F).take k := ⟨_, rfl⟩
      have hxl : xs.length = k := by rw [hxs, List.length_take, after_len]; omega
      rw [← hxs] at HO HT
      have hcF := HBF.out.cell
      rw [HFC.out] at hcF
      clear hp hpe hrow hxs
      go_upto_region 7 with fail
      refine region_anyS (S := (fun w'' : World => (∀ j, w''.cell? ⟨bF, j, none⟩ = (#[.string F.name, .int .i64 mo, .int .i64 pa, .slice Ab nb cb, .int .i64 ar, .int .i64 F.result.kind, .int .i64 F.result.id, .slice Ar F.result.args.length kr, .slice Al F.locals.length kl, .slice Ak F.blocks.length kk, .slice At nt ct] : Array Value)[j]?) ∧ w''.cell? (ap.add (k * 2)) = some (.int .i64 (p1 : Nat)) ∧ w''.cell? ⟨(ap.add (k * 2)).block, (ap.add (k * 2)).off + 1, none⟩ = some (.int .i64 (p2 : Nat)))) ?_
      have hSd : (fun w'' : World => (∀ j, w''.cell? ⟨bF, j, none⟩ = (#[.string F.name, .int .i64 mo, .int .i64 pa, .slice Ab nb cb, .int .i64 ar, .int .i64 F.result.kind, .int .i64 F.result.id, .slice Ar F.result.args.length kr, .slice Al F.locals.length kl, .slice Ak F.blocks.length kk, .slice At nt ct] : Array Value)[j]?) ∧ w''.cell? (ap.add (k * 2)) = some (.int .i64 (p1 : Nat)) ∧ w''.cell? ⟨(ap.add (k * 2)).block, (ap.add (k * 2)).off + 1, none⟩ = some (.int .i64 (p2 : Nat))) wr.drew := ⟨hcF, c0, c1⟩
      (refine AnyS.take (i := 0) (v := ?_) (by kernel_rfl) rfl (by kernel_rfl) (by kernel_rfl) (by kernel_rfl) (fun _ _ _ h => h) (by assumption) ⟨⟨by rfl, ?_⟩, fun _ => rfl⟩ ?_; rotate_left; (rintro w' ⟨hs1, hs2, hs3⟩; go_simp; rfl))
      (refine AnyS.take (i := 1) (v := ?_) (by kernel_rfl) rfl (by kernel_rfl) (by kernel_rfl) (by kernel_rfl) (fun _ _ _ h => h) (by assumption) ⟨⟨by rfl, ?_⟩, fun _ => rfl⟩ ?_; rotate_left; (rintro w' ⟨hs1, hs2, hs3⟩; go_simp; rfl))
      (refine AnyS.take (i := 2) (v := ?_) (by kernel_rfl) rfl (by kernel_rfl) (by kernel_rfl) (by kernel_rfl) (fun _ _ _ h => h) (by assumption) ⟨⟨by rfl, ?_⟩, fun _ => rfl⟩ ?_; rotate_left; (rintro w' ⟨hs1, hs2, hs3⟩; go_simp; rfl))
      (refine AnyS.take (i := 3) (v := ?_) (by kernel_rfl) rfl (by kernel_rfl) (by kernel_rfl) (by kernel_rfl) (fun _ _ _ h => h) (by assumption) ⟨⟨by rfl, ?_⟩, fun _ => rfl⟩ ?_; rotate_left; (rintro w' ⟨hs1, hs2, hs3⟩; go_simp; rfl))
      (refine AnyS.take (i := 4) (v := ?_) (by kernel_rfl) rfl (by kernel_rfl) (by kernel_rfl) (by kernel_rfl) (fun _ _ _ h => h) (by assumption) ⟨⟨by rfl, ?_⟩, fun _ => rfl⟩ ?_; rotate_left; (rintro w' ⟨hs1, hs2, hs3⟩; go_simp; rfl))
      (refine AnyS.take (i := 5) (v := ?_) (by kernel_rfl) rfl (by kernel_rfl) (by kernel_rfl) (by kernel_rfl) (fun _ _ _ h => h) (by assumption) ⟨⟨by rfl, ?_⟩, fun _ => rfl⟩ ?_; rotate_left; (rintro w' ⟨hs1, hs2, hs3⟩; go_simp; rfl))
      (refine AnyS.take (i := 6) (v := ?_) (by kernel_rfl) rfl (by kernel_rfl) (by kernel_rfl) (by kernel_rfl) (fun _ _ _ h => h) (by assumption) ⟨⟨by rfl, ?_⟩, fun _ => rfl⟩ ?_; rotate_left; (rintro w' ⟨hs1, hs2, hs3⟩; go_simp; rfl))
      refine AnyS.one (i := 7) (by kernel_rfl) ?_
      refine wpOpIn_step rfl (fun K hK => ?_)
      go_simp
      refine ⟨trivial, ?_⟩
      refine (callsIn_wide.2 (following_any _ _ F (before F) p1 p2 wr.drew (HF.out _ (Bl.le (Bl.drew HB.out))) HS.out (HVB.out.mono monoSets (Bl.le (Bl.drew HC.out))) (before_len F) before_rows HP.out)).mono ?_
      rintro e w3 ⟨⟨vs, rfl, hvs⟩, hb3⟩
      obtain ⟨Av, kv, rfl⟩ := hvs.shape
      obtain ⟨nv, hnv⟩ : ∃ nv, nv = (followL F (before F) (p1, p2)).length := ⟨_, rfl⟩
      rw [← hnv] at hvs ⊢
      have hb3' : Below wr.heap.size wr w3 := Bl.call (Bl.drew (Below.refl _ _)) hb3
      have h3 := (HBF.out.below hb3').cell
      rw [HFC.out] at h3
      have hS3 : (fun w'' : World => (∀ j, w''.cell? ⟨bF, j, none⟩ = (#[.string F.name, .int .i64 mo, .int .i64 pa, .slice Ab nb cb, .int .i64 ar, .int .i64 F.result.kind, .int .i64 F.result.id, .slice Ar F.result.args.length kr, .slice Al F.locals.length kl, .slice Ak F.blocks.length kk, .slice At nt ct] : Array Value)[j]?) ∧ w''.cell? (ap.add (k * 2)) = some (.int .i64 (p1 : Nat)) ∧ w''.cell? ⟨(ap.add (k * 2)).block, (ap.add (k * 2)).off + 1, none⟩ = some (.int .i64 (p2 : Nat))) w3 := ⟨h3, Bl.le hb3' _ _ c0, Bl.le hb3' _ _ c1⟩
      refine hK _ _ ⟨hS3, ?_⟩
      have HB3 := Lib.hid (Bl.call HB.out hb3')
      have HC3 := Lib.hid (Bl.call HC.out hb3')
      have HBF3 := Lib.hid (HBF.out.below hb3')
      have HO3 := Lib.hid (HO.out.below hb3')
      have HV3 : Hid (OSet w2.heap.size w3 (.slice Av nv kv) (followL F (before F) (p1, p2))) := OSet.base hvs HC.out.size
      have hbw : w2.heap.size ≤ w3.heap.size := HC3.out.size
      have d0 := Bl.le hb3' _ _ c0
      have d1 := Bl.le hb3' _ _ c1
      clear hK K hb3 hb3' hSd HB HC HBF HO h3 hcF c0 c1 hvs
      refine AnyS.one (i := 8) (by kernel_rfl) ?_
      refine wpOp_value (v := .slice (some ⟨w3.heap.size, 0, none⟩) 1 1) (w' := w3.alloc (.cells #[.slice Av nv kv] 38)) rfl (fun _ => rfl) (fun c hc => by cases hc) (by go_simp) ?_
      have hb4 : Below w3.heap.size w3 (w3.alloc (.cells #[.slice Av nv kv] 38)) := Bl.alloc (Below.refl _ _) _
      have h4 := (HBF3.out.below hb4).cell
      rw [HFC.out] at h4
      have hS4 : (fun w'' : World => (∀ j, w''.cell? ⟨bF, j, none⟩ = (#[.string F.name, .int .i64 mo, .int .i64 pa, .slice Ab nb cb, .int .i64 ar, .int .i64 F.result.kind, .int .i64 F.result.id, .slice Ar F.result.args.length kr, .slice Al F.locals.length kl, .slice Ak F.blocks.length kk, .slice At nt ct] : Array Value)[j]?) ∧ w''.cell? (ap.add (k * 2)) = some (.int .i64 (p1 : Nat)) ∧ w''.cell? ⟨(ap.add (k * 2)).block, (ap.add (k * 2)).off + 1, none⟩ = some (.int .i64 (p2 : Nat))) (w3.alloc (.cells #[.slice Av nv kv] 38)) := ⟨h4, Bl.le hb4 _ _ d0, Bl.le hb4 _ _ d1⟩
      refine ⟨hS4, ?_⟩
      obtain ⟨vals, hown, hvals⟩ := HO3.out.below hb4
      have hvl : vals.length = xs.length := by have := hown.1; simpa using this
      refine AnyS.one (i := 9) (by kernel_rfl) ?_
      refine wpOp_append rfl (fun _ => rfl) (.tmp 17) (.tmp 25) 33 rfl w2.heap.size 38 i0 (.slice none 0 0) 1 24 Tryz.underlying33 hi0 hz0 hz1 hz2 rfl (by decide) _ _ _ rfl hown ⟨w3.heap.size, 0, none⟩ 1 1 [_] rfl rfl (cell_one_new _ _ _) (by simp [Value.oneCell']) (by unfold maxLen; omega) (by omega) (Nat.le_trans hbw hb4.size) ?_
      intro v' w5 hown5 hg5 hat5
      have HO5 : Hid (OV2 w2.heap.size w5 v' (xs ++ [followL F (before F) (p1, p2)])) := OV2.snoc hown hvl hvals (HV3.out.below hb4) hown5 hg5
      have HB5 := Lib.hid (Bl.grown (Bl.call HB3.out hb4) hg5 (fun g hg => Nat.le_trans HB2s.out (hown.lt g hg).1))
      have HC5 := Lib.hid (Bl.grown (Bl.call HC3.out hb4) hg5 (fun g hg => (hown.lt g hg).1))
      have HBF5 : Hid (Bx w5 bF 29 FC) := (HBF3.out.below hb4).grown hg5 ((HBF3.out.below hb4).not_row hown (by decide))
      have h5 := HBF5.out.cell
      rw [HFC.out] at h5
      have hS5 : (fun w'' : World => (∀ j, w''.cell? ⟨bF, j, none⟩ = (#[.string F.name, .int .i64 mo, .int .i64 pa, .slice Ab nb cb, .int .i64 ar, .int .i64 F.result.kind, .int .i64 F.result.id, .slice Ar F.result.args.length kr, .slice Al F.locals.length kl, .slice Ak F.blocks.length kk, .slice At nt ct] : Array Value)[j]?) ∧ w''.cell? (ap.add (k * 2)) = some (.int .i64 (p1 : Nat)) ∧ w''.cell? ⟨(ap.add (k * 2)).block, (ap.add (k * 2)).off + 1, none⟩ = some (.int .i64 (p2 : Nat))) w5 := ⟨h5, Bl.le HC5.out _ _ HE0.out, Bl.le HC5.out _ _ HE1.out⟩
      refine ⟨hS5, ?_⟩
      clear hS4 hS3 h4 hown hvals hvl hown5 hg5 hat5 hb4 HB3 HC3 HBF3 HO3 HV3 d0 d1 h5
      (refine AnyS.take (i := 10) (v := ?_) (by kernel_rfl) rfl (by kernel_rfl) (by kernel_rfl) (by kernel_rfl) (fun _ _ _ h => h) (by assumption) ⟨⟨by rfl, ?_⟩, fun _ => rfl⟩ ?_; rotate_left; (rintro w' ⟨hs1, hs2, hs3⟩; go_simp; rfl))
      refine AnyS.done (by kernel_rfl) ?_ _
      clear hS5
      go_wp2_with fail
      go_roundw
      case rel => exact ⟨k + 1, by go_num, by omega, HB5, HC5, HBF5, by rw [HT.out]; exact HO5⟩
      case measure => simp [intOf]; omega
    · obtain rfl : k = np := by omega
      go_wp2_with fail
      go_ret
      have := HO.out.read
      rw [List.take_of_length_le (by rw [after_len, HNP.out]; exact Nat.le_refl _)] at this
      exact ⟨⟨_, rfl, this⟩, HB.out⟩
end Go.Proofs.YtdkjkgokllmkmaaGreatDoor.Lv
