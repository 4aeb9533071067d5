/- Walks: following of the reference. -/
import Derived.Test.YtdkjkgokllmkmaaGreatDoorLwq
import Derived.Test.YtdkjkgokllmkmaaGreatDoorLxb
namespace Go.Proofs.YtdkjkgokllmkmaaGreatDoor.Lv
open Go.RowKit
set_option linter.unusedVariables false
set_option linter.unusedSimpArgs false
def followK (F : Fn) (xss : List (List Bool)) (acc : List Bool) (l : List (Nat × Nat)) : List Bool := l.foldl (fun acc q => orL acc (xss.getD (idx F q) [])) acc
theorem followK_snoc (F : Fn) (xss : List (List Bool)) (acc : List Bool) (l : List (Nat × Nat)) (q : Nat × Nat) : followK F xss acc (l ++ [q]) = orL (followK F xss acc l) (xss.getD (idx F q) []) := by simp [followK, List.foldl_append]
theorem followK_len (F : Fn) (xss : List (List Bool)) (l : List (Nat × Nat)) : ∀ acc, (followK F xss acc l).length = acc.length := by
  induction l with
  | nil => intro acc; rfl
  | cons q l ih =>
    intro acc
    show (followK F xss (orL acc _) l).length = _
    rw [ih, orL_len]
def followL (F : Fn) (xss : List (List Bool)) (p : Nat × Nat) : List Bool := followK F xss (List.replicate F.locals.length false) (next F p)
set_option maxHeartbeats 4000000 in
set_option maxRecDepth 100000 in
theorem following_any (v vb : Value) (F : Fn) (xss : List (List Bool)) (b i : Nat) (w : World) (hF : RFn w.cell? v F) (hs : Szd F) (hx : RSets w.cell? vb xss) (hxl : xss.length = (pts F).length) (hnl : ∀ s, s ∈ xss → s.length = F.locals.length) (hp : isPt F (b, i)) :
    Calls Tryz.prog 36 #[v, vb, .agg #[.int .i64 b, .int .i64 i]] w fun e w' => (∃ v', e = .returned v' ∧ OSet w.heap.size w' v' (followL F xss (b, i))) ∧ Below w.heap.size w w' := by
  obtain ⟨mo, pa, ar, vb', vr, vl', vk, vt, Ab, At, nb, cb, nt, ct, rfl, rfl, rfl, m1, m2, ⟨Ar, kr, rfl, hr1, hr2, hr3⟩, ⟨Al, kl, rfl, g1, g2, hL⟩, ⟨Ak, kk, rfl, hk1, hk2, hk3⟩⟩ := id hF
  obtain ⟨X, kx, rfl, x1, x2, x3⟩ := hx
  have hll := hs.locals
  have HF := Lib.hid (fun c (hc : Le w.cell? c) => hF.mono hc)
  have HX := Lib.hid (fun c (hc : Le w.cell? c) => x3.mono monoSets hc)
  have HS := Lib.hid hs
  have HXL := Lib.hid hxl
  have HNL := Lib.hid hnl
  have HP := Lib.hid hp
  have e38 := Tryz.mk38 F.locals.length (by omega)
  have hxb : (xss.length : Int) ≤ 9223372036854775807 := by unfold maxLen at x2; omega
  clear hF hr3 hL hk3 x3 hs hxl hnl hp
  go_enter Tryz.func36, Tryz.ntmps36
  go_wp2_with fail
  obtain ⟨bF, hbF⟩ : ∃ bF, bF = w.heap.size := ⟨_, rfl⟩
  obtain ⟨bs, hbs⟩ : ∃ bs, bs = w.heap.size + 1 + 1 := ⟨_, rfl⟩
  rw [← hbs, ← hbF]
  generalize hW : World.alloc _ _ = W
  have HB0 : Hid (Below w.heap.size w W) := by rw [← hW]; exact Bl.alloc (Bl.alloc (Bl.alloc (Below.refl _ _) _) _) _
  have HBF : Hid (Bx W bF 29 #[.string F.name, .int .i64 mo, .int .i64 pa, .slice Ab nb cb, .int .i64 ar, .int .i64 F.result.kind, .int .i64 F.result.id, .slice Ar F.result.args.length kr, .slice Al F.locals.length kl, .slice Ak F.blocks.length kk, .slice At nt ct]) := by
    show Bx _ _ _ _
    rw [← hW]
    exact ((Bx.at0 _ _ _ hbF).alloc _).alloc _
  have HBS : Hid (Bx W bs 4 (tabA F.locals.length fun _ => .bool false)) := by
    show Bx _ _ _ _
    rw [← hW]
    exact Bx.at0 _ _ _ (by rw [hbs]; simp)
  have hbs2 : w.heap.size ≤ bs := by omega
  have hneF : bF ≠ bs := by omega
  clear hW hbF hbs
  refine (next_any _ F b i W (HF.out _ (Bl.le HB0.out)) HS.out HP.out.1 HP.out.2).mono ?_
  rintro e w1 ⟨⟨vp, rfl, hvp⟩, hb1⟩
  have HB1 := Lib.hid (Bl.call HB0.out hb1)
  have HBF1 := Lib.hid (HBF.out.below hb1)
  have HBS1 := Lib.hid (HBS.out.below hb1)
  have HVP := Lib.hid (RPts.avoid hvp HBS1.out (fun j n h => by
    by_cases hj : j < F.locals.length
    · rw [tabA_get hj] at h
      cases h
    · rw [Array.getElem?_eq_none (by rw [tabA_size]; omega)] at h
      cases h))
  have HNP := Lib.hid (fun q (hq : q ∈ next F (b, i)) => next_pt HP.out hq)
  have HO1 : Hid (OSet w.heap.size w1 (.slice (some ⟨bs, 0, none⟩) F.locals.length F.locals.length) (followK F xss (List.replicate F.locals.length false) ((next F (b, i)).take 0))) :=
    ⟨by simp [bools, followK], .inr ⟨bs, F.locals.length, _, by simp [followK], hbs2, HBS1.out, by simp [followK], by simp only [maxLen]; omega, by rw [tabA_size, Nat.mul_one], by simp [followK, tabA, bools, map_range_const]⟩⟩
  obtain ⟨l, hl⟩ : ∃ l, l = next F (b, i) := ⟨_, rfl⟩
  rw [← hl] at HVP HNP HO1
  have HLL : Hid (followL F xss (b, i) = followK F xss (List.replicate F.locals.length false) l) := by
    show followL _ _ _ = _
    rw [hl]
    rfl
  clear hvp hb1 HB0 HBF HBS hl
  obtain ⟨Ap, kp, rfl, p1, p2, p3⟩ := HVP.out
  have HP3 := Lib.hid p3
  have hlb : (l.length : Int) ≤ 9223372036854775807 := by unfold maxLen at p2; omega
  clear p3 HVP
  go_wp2_with fail
  go_loopw [9] (fun t wr => ∃ (j : Nat), t = .int .i64 j ∧ j ≤ l.length ∧ Hid (Below w.heap.size w wr) ∧ Hid (Chg [bs] w1 wr) ∧ Hid (Bx wr bF 29 #[.string F.name, .int .i64 mo, .int .i64 pa, .slice Ab nb cb, .int .i64 ar, .int .i64 F.result.kind, .int .i64 F.result.id, .slice Ar F.result.args.length kr, .slice Al F.locals.length kl, .slice Ak F.blocks.length kk, .slice At nt ct]) ∧ Hid (OSet w.heap.size wr (.slice (some ⟨bs, 0, none⟩) F.locals.length F.locals.length) (followK F xss (List.replicate F.locals.length false) (l.take j)))) (fun t _ => l.length - (intOf t).toNat)
  case atStart => exact ⟨0, rfl, Nat.zero_le _, HB1, Chg.refl _ _, HBF1, HO1⟩
  case round =>
    clear HB1 HBF1 HO1
    obtain ⟨j, rfl, hj, HB, HC, HBF, HO⟩ := hrel
    by_cases hjl : j < l.length
    · have hji : (j : Int) < (l.length : Int) := by omega
      obtain ⟨ap, rfl, c0, c1⟩ := (RRow.mono monoPt (Chg.le' HC.out) HP3.out).pt_at j hjl
      have hq : isPt F (l.getD j (0, 0)) := HNP.out _ (by rw [List.getD_eq_getElem?_getD, List.getElem?_eq_getElem hjl]; exact List.getElem_mem hjl)
      obtain ⟨q1, q2, hqe⟩ : ∃ q1 q2, l.getD j (0, 0) = (q1, q2) := ⟨_, _, rfl⟩
      rw [hqe] at c0 c1 hq
      simp only at c0 c1
      have hil := idx_lt hq
      rw [← HXL.out] at hil
      obtain ⟨ix, hix⟩ : ∃ ix, ix = idx F (q1, q2) := ⟨_, rfl⟩
      rw [← hix] at hil
      obtain ⟨ax, vs, rfl, cx, hvs⟩ := (HX.out _ (Bl.le HB.out)).set_at ix hil
      have hsl : (xss.getD ix []).length = F.locals.length := HNL.out _ (by rw [List.getD_eq_getElem?_getD, List.getElem?_eq_getElem hil]; exact List.getElem_mem hil)
      have hlk := (HX.out _ (le_look (D := [bs]) HB.out (fun k hk => by rw [List.mem_singleton] at hk; omega))).set_at ix hil
      obtain ⟨ax', vs', e', cx', hvs'⟩ := hlk
      simp only [Option.some.injEq] at e'
      subst e'
      have e2 : vs' = vs := by
        have := look_le _ _ _ _ cx'
        rw [cx] at this
        exact (Option.some.inj this).symm
      subst e2
      obtain ⟨As, ks, rfl, s1, s2, s3⟩ := hvs'
      rw [hsl] at cx
      have HS3 := Lib.hid s3
      have HSL := Lib.hid hsl
      have HQ := Lib.hid hq
      have HIX := Lib.hid hix
      have HQE := Lib.hid hqe
      have hii : (ix : Int) < (xss.length : Int) := by omega
      have hcF := HBF.out.cell
      clear hvs s3 hq hqe cx' hsl hix s1
      go_upto_region 6 with fail
      refine region_anyS (S := (fun w'' : World => (∀ j, w''.cell? ⟨bF, j, none⟩ = (#[.string F.name, .int .i64 mo, .int .i64 pa, .slice Ab nb cb, .int .i64 ar, .int .i64 F.result.kind, .int .i64 F.result.id, .slice Ar F.result.args.length kr, .slice Al F.locals.length kl, .slice Ak F.blocks.length kk, .slice At nt ct] : Array Value)[j]?) ∧ w''.cell? (ap.add (j * 2)) = some (.int .i64 (q1 : Nat)) ∧ w''.cell? ⟨(ap.add (j * 2)).block, (ap.add (j * 2)).off + 1, none⟩ = some (.int .i64 (q2 : Nat)) ∧ w''.cell? (ax.add ix) = some (.slice As F.locals.length ks))) ?_
      have hSd : (fun w'' : World => (∀ j, w''.cell? ⟨bF, j, none⟩ = (#[.string F.name, .int .i64 mo, .int .i64 pa, .slice Ab nb cb, .int .i64 ar, .int .i64 F.result.kind, .int .i64 F.result.id, .slice Ar F.result.args.length kr, .slice Al F.locals.length kl, .slice Ak F.blocks.length kk, .slice At nt ct] : Array Value)[j]?) ∧ w''.cell? (ap.add (j * 2)) = some (.int .i64 (q1 : Nat)) ∧ w''.cell? ⟨(ap.add (j * 2)).block, (ap.add (j * 2)).off + 1, none⟩ = some (.int .i64 (q2 : Nat)) ∧ w''.cell? (ax.add ix) = some (.slice As F.locals.length ks)) wr.drew := ⟨hcF, c0, c1, cx⟩
      (refine AnyS.take (i := 0) (v := ?_) (by kernel_rfl) rfl (by kernel_rfl) (by kernel_rfl) (by kernel_rfl) (fun _ _ _ h => h) (by assumption) ⟨⟨by rfl, ?_⟩, fun _ => rfl⟩ ?_; rotate_left; (rintro w' ⟨hs1, hs2, hs3, hs4⟩; go_simp; rfl))
      (refine AnyS.take (i := 1) (v := ?_) (by kernel_rfl) rfl (by kernel_rfl) (by kernel_rfl) (by kernel_rfl) (fun _ _ _ h => h) (by assumption) ⟨⟨by rfl, ?_⟩, fun _ => rfl⟩ ?_; rotate_left; (rintro w' ⟨hs1, hs2, hs3, hs4⟩; go_simp; rfl))
      (refine AnyS.take (i := 2) (v := ?_) (by kernel_rfl) rfl (by kernel_rfl) (by kernel_rfl) (by kernel_rfl) (fun _ _ _ h => h) (by assumption) ⟨⟨by rfl, ?_⟩, fun _ => rfl⟩ ?_; rotate_left; (rintro w' ⟨hs1, hs2, hs3, hs4⟩; go_simp; rfl))
      (refine AnyS.take (i := 3) (v := ?_) (by kernel_rfl) rfl (by kernel_rfl) (by kernel_rfl) (by kernel_rfl) (fun _ _ _ h => h) (by assumption) ⟨⟨by rfl, ?_⟩, fun _ => rfl⟩ ?_; rotate_left; (rintro w' ⟨hs1, hs2, hs3, hs4⟩; go_simp; rfl))
      (refine AnyS.take (i := 4) (v := ?_) (by kernel_rfl) rfl (by kernel_rfl) (by kernel_rfl) (by kernel_rfl) (fun _ _ _ h => h) (by assumption) ⟨⟨by rfl, ?_⟩, fun _ => rfl⟩ ?_; rotate_left; (rintro w' ⟨hs1, hs2, hs3, hs4⟩; go_simp; rfl))
      (refine AnyS.take (i := 5) (v := ?_) (by kernel_rfl) rfl (by kernel_rfl) (by kernel_rfl) (by kernel_rfl) (fun _ _ _ h => h) (by assumption) ⟨⟨by rfl, ?_⟩, fun _ => rfl⟩ ?_; rotate_left; (rintro w' ⟨hs1, hs2, hs3, hs4⟩; go_simp; rfl))
      refine AnyS.one (i := 6) (by kernel_rfl) ?_
      refine wpOpIn_step rfl (fun K hK => ?_)
      go_simp
      refine ⟨trivial, ?_⟩
      refine (callsIn_wide.2 (index_any _ F q1 q2 wr.drew (HF.out _ (Bl.le (Bl.drew HB.out))) HS.out HQ.out.1 HQ.out.2)).mono ?_
      rintro e w2 ⟨rfl, hb2⟩
      have hb2' : Below wr.heap.size wr w2 := Bl.call (Bl.drew (Below.refl _ _)) hb2
      have hixe : q2 + offs F q1 = ix := HIX.out.symm
      rw [hixe]
      have hS2 : (fun w'' : World => (∀ j, w''.cell? ⟨bF, j, none⟩ = (#[.string F.name, .int .i64 mo, .int .i64 pa, .slice Ab nb cb, .int .i64 ar, .int .i64 F.result.kind, .int .i64 F.result.id, .slice Ar F.result.args.length kr, .slice Al F.locals.length kl, .slice Ak F.blocks.length kk, .slice At nt ct] : Array Value)[j]?) ∧ w''.cell? (ap.add (j * 2)) = some (.int .i64 (q1 : Nat)) ∧ w''.cell? ⟨(ap.add (j * 2)).block, (ap.add (j * 2)).off + 1, none⟩ = some (.int .i64 (q2 : Nat)) ∧ w''.cell? (ax.add ix) = some (.slice As F.locals.length ks)) w2 := ⟨(HBF.out.below hb2').cell, Bl.le hb2' _ _ c0, Bl.le hb2' _ _ c1, Bl.le hb2' _ _ cx⟩
      refine hK _ _ ⟨hS2, ?_⟩
      have HB2 := Lib.hid (Bl.call HB.out hb2')
      have HC2 := Lib.hid (HC.out.call hb2')
      have HBF2 := Lib.hid (HBF.out.below hb2')
      have HO2 := Lib.hid (HO.out.below hb2')
      have HS4 := Lib.hid (HS3.out.mono monoBool (Chg.of_below hb2' [bs]).le)
      clear hK K hb2 hb2' hSd HB HC HBF HO c0 c1 hcF hixe HS3
      (refine AnyS.take (i := 7) (v := ?_) (by kernel_rfl) rfl (by kernel_rfl) (by kernel_rfl) (by kernel_rfl) (fun _ _ _ h => h) (by assumption) ⟨⟨by rfl, ?_⟩, fun _ => rfl⟩ ?_; rotate_left; (rintro w' ⟨hs1, hs2, hs3, hs4⟩; go_simp; rfl))
      (refine AnyS.take (i := 8) (v := ?_) (by kernel_rfl) rfl (by kernel_rfl) (by kernel_rfl) (by kernel_rfl) (fun _ _ _ h => h) (by assumption) ⟨⟨by rfl, ?_⟩, fun _ => rfl⟩ ?_; rotate_left; (rintro w' ⟨hs1, hs2, hs3, hs4⟩; go_simp; rfl))
      (refine AnyS.take (i := 9) (v := ?_) (by kernel_rfl) rfl (by kernel_rfl) (by kernel_rfl) (by kernel_rfl) (fun _ _ _ h => h) (by assumption) ⟨⟨by rfl, ?_⟩, fun _ => rfl⟩ ?_; rotate_left; (rintro w' ⟨hs1, hs2, hs3, hs4⟩; go_simp; rfl))
      refine AnyS.done (by kernel_rfl) ?_ _
      clear hS2 cx
      obtain ⟨ys, hys⟩ : ∃ ys, ys = xss.getD ix [] := ⟨_, rfl⟩
      obtain ⟨acc, hacc⟩ : ∃ acc, acc = followK F xss (List.replicate F.locals.length false) (l.take j) := ⟨_, rfl⟩
      have hal : F.locals.length = acc.length := by rw [hacc, followK_len]; simp
      have HT : Hid (followK F xss (List.replicate F.locals.length false) (l.take (j + 1)) = orL acc ys) := by
        show followK _ _ _ _ = _
        rw [take_snoc _ _ (0, 0) hjl, followK_snoc, ← hacc, HQE.out, hys, HIX.out]
      have hsl := HSL.out
      rw [← hacc] at HO2
      rw [← hys] at hsl HS4
      have HAL := Lib.hid hal
      have HYL := Lib.hid hsl
      clear hacc hys hal hsl HSL HIX HQE HQ
      go_wp2_with fail
      go_loopw [11] (fun t wi => ∃ (k : Nat), t = .int .i64 k ∧ k ≤ F.locals.length ∧ Hid (Below w.heap.size w wi) ∧ Hid (Chg [bs] w2 wi) ∧ Hid (Bx wi bF 29 #[.string F.name, .int .i64 mo, .int .i64 pa, .slice Ab nb cb, .int .i64 ar, .int .i64 F.result.kind, .int .i64 F.result.id, .slice Ar F.result.args.length kr, .slice Al F.locals.length kl, .slice Ak F.blocks.length kk, .slice At nt ct]) ∧ Hid (OSet w.heap.size wi (.slice (some ⟨bs, 0, none⟩) F.locals.length F.locals.length) (orK k acc ys))) (fun t _ => F.locals.length - (intOf t).toNat)
      case atStart => exact ⟨0, rfl, Nat.zero_le _, HB2, Chg.refl _ _, HBF2, (by rw [orK_zero]; exact HO2)⟩
      case round =>
        clear HB2 HBF2 HO2
        obtain ⟨k, rfl, hk, HB, HCi, HBF, HOr⟩ := hrel
        by_cases hlt : k < F.locals.length
        · have hlx : k < acc.length := by rw [← HAL.out]; exact hlt
          obtain ⟨ad, rfl, ca⟩ := (RRow.mono monoBool (Chg.le' HCi.out) HS4.out).bool_at' k (by rw [HYL.out]; exact hlt)
          have hki : (k : Int) < (F.locals.length : Int) := by omega
          obtain ⟨zs, hz⟩ : ∃ zs, zs = orK k acc ys := ⟨_, rfl⟩
          have hzl : F.locals.length = zs.length := by rw [hz, orK_len]; exact HAL.out
          have hg0 : zs.getD k false = acc.getD k false := by rw [hz, orK_get _ _ _ _ hlx, if_neg (by omega)]
          have HSS : Hid (orK (k + 1) acc ys = zs.set k (acc.getD k false || ys.getD k false)) := by rw [hz]; exact orK_succ _ _ _
          rw [← hz] at HOr
          have HZL := Lib.hid hzl
          clear hz
          have c2 := HOr.out.cell (j := k) hzl (by rw [← hzl]; exact hlt)
          have f2 := HOr.out.frozen hzl k
          rw [hg0] at c2
          obtain ⟨x, hx⟩ : ∃ x, x = acc.getD k false := ⟨_, rfl⟩
          obtain ⟨y, hy⟩ : ∃ y, y = ys.getD k false := ⟨_, rfl⟩
          rw [← hx] at c2 HSS
          rw [← hy] at ca HSS
          clear hg0 hx hy hzl hlx
          cases x
          all_goals
            go_wp2_with fail
            go_roundw
            case rel =>
              refine ⟨k + 1, by go_num, by omega, Bl.set HB.out hbs2 _, HCi.out.put (.inl (by simp)) _, HBF.out.far (by simpa using hneF) _, ?_⟩
              rw [HSS.out]
              exact (HOr.out.put' HZL.out _).1
            case measure => simp [intOf]; omega
        · obtain rfl : k = F.locals.length := by omega
          have ho := HOr.out
          rw [HAL.out] at ho
          have HO1 : Hid (OSet w.heap.size wr (.slice (some ⟨bs, 0, none⟩) F.locals.length F.locals.length) (followK F xss (List.replicate F.locals.length false) (l.take (j + 1)))) := by
            show OSet _ _ _ _
            rw [HT.out, HAL.out]
            exact ho
          clear ho HOr
          go_wp2_with fail
          go_roundw
          case rel => exact ⟨j + 1, by go_num, by omega, HB, HC2.out.trans HCi.out, HBF, HO1⟩
          case measure => simp [intOf]; omega
    · obtain rfl : j = l.length := by omega
      go_wp2_with fail
      go_ret
      refine ⟨⟨_, rfl, ?_⟩, HB.out⟩
      have := HO.out
      rwa [List.take_length, ← HLL.out] at this
end Go.Proofs.YtdkjkgokllmkmaaGreatDoor.Lv
