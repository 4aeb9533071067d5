/- Walks: solve, a round of its main loop. -/
import Derived.Test.YtdkjkgokllmkmaaGreatDoorLwg
import Derived.Test.YtdkjkgokllmkmaaGreatDoorLvx
namespace Go.Proofs.YtdkjkgokllmkmaaGreatDoor.Lv
open Go.RowKit
set_option linter.unusedVariables false
set_option linter.unusedSimpArgs false
theorem OSet.blt {base : Nat} {w : World} {v : Value} {xs : List Bool} (h : OSet base w v xs) {g : Nat} (hg : v.ownBlock = some g) : g < w.heap.size := by
  rcases h.2 with ⟨rfl, _⟩ | ⟨g', cap, cur, rfl, h1, h2, _⟩
  · cases hg
  · simp only [Value.ownBlock, Option.some.injEq] at hg
    subst hg
    exact (Array.getElem?_eq_some_iff.1 h2).1
theorem OSet.box {base : Nat} {w : World} {v : Value} {xs : List Bool} (h : OSet base w v xs) {g : Nat} (hg : v.ownBlock = some g) : base ≤ g ∧ ∃ cs, Bx w g 4 cs := by
  rcases h.2 with ⟨rfl, _⟩ | ⟨g', cap, cur, rfl, h1, h2, _⟩
  · cases hg
  · simp only [Value.ownBlock, Option.some.injEq] at hg
    subst hg
    exact ⟨h1, cur, h2⟩
/-- A set that lies in no row is turned. -/
theorem SM.grownSet {W0 : World} {fc : Array Value} {nl nb : Nat} {L : Nat → Nat} {bF bO R P : Nat} {rb : Nat → Nat} {lv : Nat → Value} {ls : Nat → List Int} {sv : Nat → Nat → Value} {tab : Nat → Nat → List Bool} {m : Nat} {c : Nat → Nat} {w w' : World}
    (h : SM W0 fc nl nb L bF bO R P rb lv ls sv tab m c w) {bs : Nat} (hg : w.grownBy w' (some bs)) (hb : W0.heap.size ≤ bs) {cs : Array Value} (hbs : Bx w bs 4 cs) (hav : ∀ b, b < m → ∀ k, k < c b → ∀ g, (sv b k).ownBlock = some g → g ≠ bs) :
    SM W0 fc nl nb L bF bO R P rb lv ls sv tab m c w' := by
  have hc : CK [bs] w w' := CK.of_chg (Chg.grown hg (fun k hk => by simp at hk; simp [hk]))
  have far : ∀ {b t cs}, Bx w b t cs → t ≠ 4 → Bx w' b t cs := fun hx ht => hc.bx hx (by simpa using hx.ne hbs ht)
  refine ⟨Bl.chg h.bl (Chg.grown (D := [bs]) hg (fun k hk => by simp at hk; simp [hk])) (fun g hm => by simp at hm; omega), far h.f (by simp), far h.o (by simp), far h.r (by simp), far h.p (by simp), fun b hbm => ⟨(h.row b hbm).1, far (h.row b hbm).2 (by simp)⟩, h.inj, ?_, ?_, h.at_⟩
  · intro b hbm k hk
    obtain ⟨s1, s2⟩ := h.set b hbm k hk
    exact ⟨s1.ck hc (fun g hg' => by simpa using hav b hbm k hk g hg'), s2⟩
  · exact h.fam.ck hc (fun b hbm g hg' => by
      have := (h.fam.1 b hbm).apart hbs (by simp)
      rw [hg'] at this
      simpa using this)
set_option maxHeartbeats 8000000 in
set_option maxRecDepth 1000000 in
theorem solve_round (F : Fn) (W0 : World) (FC : Array Value) (hF : RFn W0.cell? (.agg FC) F) (hs : Szd F) (bF bO bR bP : Nat) (rb : Nat → Nat) (n : Nat) (a : Act) (w : World)
    (h : WI F W0 FC (fun b => (F.blk b).code.length + 2) bF bO bR bP rb 800 n a w) :
    solveBody.wp Tryz.prog (Exit.then (fun a' w' => ∃ m, m < n ∧ WI F W0 FC (fun b => (F.blk b).code.length + 2) bF bO bR bP rb 800 m a' w') (RQ F W0 FC (fun b => (F.blk b).code.length + 2) bF bO bR bP rb 800)) a w := by
  obtain ⟨q, u, ds, lv, sv, tab, rfl, hM, hSM, hP, rfl⟩ := h
  dsimp only
  obtain ⟨A5, k5, h5⟩ := (hSM.fam.1 F.blocks.length (Nat.le_refl _)).shape
  rw [lsG_at] at h5
  obtain ⟨L, hL⟩ : ∃ L : Nat → Nat, L = fun b => (F.blk b).code.length + 2 := ⟨_, rfl⟩
  rw [← hL] at hSM ⊢
  have HSM := Lib.hid hSM
  have HM := Lib.hid hM
  have HP := Lib.hid hP
  have HL := Lib.hid hL
  have HH5 := Lib.hid h5
  rw [h5]
  clear hSM hM hP hL
  conv => arg 2; whnf
  cases q with
  | nil =>
    simp only [List.length_nil]
    simp only [List.length_nil] at h5 HH5
    clear h5
    go_wp2
    exact ⟨_, WIq.intro rfl rfl rfl rfl (by rw [HH5.out]; rfl) HM.out HSM.out HP.out⟩
  | cons x q =>
    obtain ⟨hx0, hxl⟩ := HP.out.qlt x (by simp)
    obtain ⟨i, rfl⟩ := Int.eq_ofNat_of_zero_le hx0
    have hi : i < F.blocks.length := by omega
    have hq0 := HSM.out.fam.1 F.blocks.length (Nat.le_refl _)
    rw [lsG_at, h5] at hq0
    obtain ⟨g5, off5, cap5, e5⟩ := hq0.form (by simp)
    simp only [Value.slice.injEq] at e5
    obtain ⟨rfl, _, rfl⟩ := e5
    obtain ⟨_, hcap5, cq, _, hq5⟩ := hq0.tail
    have HQ5 := Lib.hid hq5
    have hq5lt : g5 < w.heap.size := (hq0.lt rfl).2.1
    clear hq5 hq0 h5
    obtain ⟨mo, pa, ar, vb, vr, vl', vk, vt, Ab, At, nb, cb, nt, ct, eF, rfl, rfl, m1, m2, ⟨Ar, kr, rfl, hr1, hr2, hr3⟩, ⟨Al, kl, rfl, h1, h2, hL8⟩, ⟨Ak, kk, rfl, hk1, hk2, hk3⟩⟩ := id hF
    simp only [Value.agg.injEq] at eF
    have hbl := hs.blocks
    have hll := hs.locals
    have HS := Lib.hid hs
    have HF := Lib.hid hF
    have hFC9 : FC[9]? = some (.slice Ak F.blocks.length kk) := by rw [eF]; rfl
    have hFC8 : FC[8]? = some (.slice Al F.locals.length kl) := by rw [eF]; rfl
    have HFC := Lib.hid eF
    have HLA : Hid (∀ b, L b = (F.blk b).code.length + 2) := fun b => by rw [HL.out]
    have HLi : Hid (L i = (F.blk i).code.length + 2) := by show L i = _; rw [HL.out]
    obtain ⟨adb, vc, vg, rfl, c0, c1, c2, c3, ⟨Ac, kc, rfl, hc1, hc2, hc3⟩, ⟨Ag, kg, rfl, hg1, hg2, hg3⟩⟩ := hk3.blk_at i hi
    have hB : F.blk i = F.blocks.getD i default := rfl
    obtain ⟨B, hB2⟩ : ∃ B, B = F.blk i := ⟨_, rfl⟩
    rw [← hB] at c0 c1 c2 c3 hc1 hg1 hg3 hc3
    rw [← hB2] at c0 c1 c2 c3 hc1 hg1 hg3 hc3 HLi
    have HBB := Lib.hid hB2
    have HG := Lib.hid hg3
    have HC := Lib.hid hc3
    have hbc : B.code.length ≤ 21 := by rw [hB2]; exact HS.out.code _ (getD_mem hi)
    have hbt : B.fin.targets.length ≤ 20 := by rw [hB2]; exact HS.out.targets _ (getD_mem hi)
    have HC0 := Lib.hid (And.intro c0 (And.intro c1 (And.intro c2 c3)))
    have le := Bl.le HSM.out.bl
    have d3 := le _ _ c3
    clear hr3 hL8 hk3 hc3 hg3 hB hB2 eF hs hF le c0 c1 c2 c3 hx0 hxl
    have cF9 := (HSM.out.f.cell 9).trans hFC9
    have cF8 := (HSM.out.f.cell 8).trans hFC8
    have lF := HSM.out.f.lt
    have e83 := mk83 F.locals.length (by omega)
    have hii : (i : Int) < (F.blocks.length : Int) := by omega
    simp only [List.length_cons]
    go_upto_region 25 with fail
    obtain ⟨b11, hb11⟩ : ∃ b11, b11 = w.heap.size := ⟨_, rfl⟩
    obtain ⟨bs, hbs⟩ : ∃ bs, bs = w.heap.size + 1 := ⟨_, rfl⟩
    obtain ⟨b12, hb12⟩ : ∃ b12, b12 = w.heap.size + 1 + 1 := ⟨_, rfl⟩
    rw [← hb12, ← hbs, ← hb11]
    generalize hW1 : World.alloc _ _ = W1
    have hb01 : Below w.heap.size w W1 := by rw [← hW1]; repeat (first | exact Below.refl _ _ | apply Bl.alloc)
    have HS1 := Lib.hid (HSM.out.below hb01)
    have HM1 := Lib.hid (HM.out.keep (fun k o hk _ => (hb01.block k (Array.getElem?_eq_some_iff.1 hk).1).trans hk))
    have HB11 : Hid (Bx W1 b11 3 #[.int .i64 (i : Int)]) := by
      show Bx _ _ _ _
      rw [← hW1, hb11]
      repeat (first | (refine Bx.at0 _ _ _ ?_; (simp; done)) | apply Bx.alloc)
    have HB12 : Hid (Bx W1 b12 83 #[.slice (some ⟨bs, 0, none⟩) F.locals.length F.locals.length]) := by
      show Bx _ _ _ _
      rw [← hW1, hb12]
      exact Bx.at0 _ _ _ (by simp)
    have HOS : Hid (OSet W0.heap.size W1 (.slice (some ⟨bs, 0, none⟩) F.locals.length F.locals.length) (nowK F.blocks.length (fun t => tab t 0) (List.replicate F.locals.length false) (B.fin.targets.take 0))) := by
      have := OSet.new W0.heap.size (w.alloc (.cells #[.int .i64 (i : Int)] 3)) F.locals.length (by have := HSM.out.bl.size; simp; omega) (by omega)
      have h2 := this.below (Bl.alloc (Below.refl _ _) (.cells #[.slice (some ⟨bs, 0, none⟩) F.locals.length F.locals.length] 83))
      show OSet _ _ _ _
      rw [← hW1]
      simp only [World.size_alloc] at h2
      rw [← hbs] at h2
      exact h2
    have HAV : Hid (∀ b, b < F.blocks.length → ∀ k, k < L b → ∀ g, (sv b k).ownBlock = some g → g < b11) := fun b hb k hk g hg => by
      rw [hb11]
      exact ((HSM.out.set b hb k hk).1).blt hg
    have HLV : Hid (∀ b, b ≤ F.blocks.length → ∀ g, (lv b).ownBlock = some g → g < b11) := fun b hb g hg => by
      rw [hb11]
      exact ((HSM.out.fam.1 b hb).lt hg).2.1
    have HRB : Hid (∀ b, b < F.blocks.length → rb b < b11) := fun b hb => by
      rw [hb11]
      exact (HSM.out.row b hb).2.lt
    have HN : Hid (b11 < bs ∧ bs < b12 ∧ W0.heap.size ≤ b11) := by
      have := HSM.out.bl.size
      exact ⟨by omega, by omega, by omega⟩
    have hg5 : g5 < b11 := by omega
    have d3' := Bl.le hb01 _ _ d3
    clear hW1 d3 cF9 cF8 lF e83 cq hq5lt HSM HM hb11 hbs hb12 hb01
    have cF9 := (HS1.out.f.cell 9).trans hFC9
    have c11 := HB11.out.cell 0
    go_wp2_with fail
    clear cF9 c11 d3'
    go_loopw [119] (fun t wr => ∃ (j : Nat), t = .int .i64 j ∧ j ≤ B.fin.targets.length ∧
      Hid (SM W0 FC F.locals.length F.blocks.length L bF bO bR bP rb lv (lsG F.blocks.length (predL F F.blocks.length) ((i : Int) :: q)) sv tab F.blocks.length L wr) ∧ Hid (Marks W0.heap.size ds wr) ∧
      Hid (Bx wr b11 3 #[.int .i64 (i : Int)]) ∧ Hid (Bx wr b12 83 #[.slice (some ⟨bs, 0, none⟩) F.locals.length F.locals.length]) ∧
      Hid (OSet W0.heap.size wr (.slice (some ⟨bs, 0, none⟩) F.locals.length F.locals.length) (nowK F.blocks.length (fun t => tab t 0) (List.replicate F.locals.length false) (B.fin.targets.take j)))) (fun t _ => B.fin.targets.length - (intOf t).toNat)
    case atStart => exact ⟨0, rfl, Nat.zero_le _, HS1, HM1, HB11, HB12, HOS⟩
    case round =>
      clear HS1 HM1 HB11 HB12 HOS
      obtain ⟨j, rfl, hj, HS1, HM1, HB11, HB12, HOS⟩ := hrel
      by_cases hjl : j < B.fin.targets.length
      · have hji : (j : Int) < (B.fin.targets.length : Int) := by omega
        obtain ⟨adg, rfl, ca⟩ := (HG.out.mono monoInt (Bl.le HS1.out.bl)).int_at j hjl
        have cF9 := (HS1.out.f.cell 9).trans hFC9
        obtain ⟨t, ht⟩ : ∃ t, t = B.fin.targets.getD j 0 := ⟨_, rfl⟩
        rw [← ht] at ca
        have HK : Hid (nowK F.blocks.length (fun t => tab t 0) (List.replicate F.locals.length false) (B.fin.targets.take (j + 1)) = if 0 ≤ t ∧ t < F.blocks.length then orL (nowK F.blocks.length (fun t => tab t 0) (List.replicate F.locals.length false) (B.fin.targets.take j)) (tab t.toNat 0) else nowK F.blocks.length (fun t => tab t 0) (List.replicate F.locals.length false) (B.fin.targets.take j)) := by
          show nowK _ _ _ _ = _
          rw [take_snoc _ _ 0 hjl, nowK_snoc, ← ht]
        clear ht
        by_cases ht0 : 0 ≤ t
        · obtain ⟨a, rfl⟩ := Int.eq_ofNat_of_zero_le ht0
          by_cases hta : a < F.blocks.length
          · have htai : (a : Int) < (F.blocks.length : Int) := by omega
            have hLa : L a = (F.blk a).code.length + 2 := by rw [HL.out]
            obtain ⟨hsa, hsl⟩ := HS1.out.set a hta 0 (by omega)
            obtain ⟨As, ks, hvs⟩ := hsa.shape
            rw [hsl] at hvs
            have HSA := Lib.hid hsa
            have HSL := Lib.hid hsl
            have HVS := Lib.hid hvs
            have cO := HS1.out.cO
            have cR := HS1.out.cR (b := a) hta hta
            have cw := HS1.out.cRow (b := a) (k := 0) hta (by omega)
            rw [if_pos (by omega), hvs] at cw
            rw [hLa] at cR
            obtain ⟨la, hla⟩ : ∃ la, la = (F.blk a).code.length := ⟨_, rfl⟩
            rw [← hla] at cR
            have c12 := HB12.out.cell 0
            have hla0 : (0 : Int) < (la : Int) + 2 := by omega
            clear hsa hsl hvs hLa hla
            go_upto_region 29 with fail
            refine region_anyS (S := fun w'' => w''.cell? ⟨b12, 0, none⟩ = some (.slice (some ⟨bs, 0, none⟩) F.locals.length F.locals.length) ∧ w''.cell? ⟨bO, 0, none⟩ = some (.slice (some ⟨bR, 0, none⟩) F.blocks.length F.blocks.length) ∧ w''.cell? ⟨bR, a, none⟩ = some (.slice (some ⟨rb a, 0, none⟩) (la + 2) (la + 2)) ∧ w''.cell? ⟨rb a, 0, none⟩ = some (.slice As F.locals.length ks)) ?_
            have hSd : (fun w'' : World => w''.cell? ⟨b12, 0, none⟩ = some (.slice (some ⟨bs, 0, none⟩) F.locals.length F.locals.length) ∧ w''.cell? ⟨bO, 0, none⟩ = some (.slice (some ⟨bR, 0, none⟩) F.blocks.length F.blocks.length) ∧ w''.cell? ⟨bR, a, none⟩ = some (.slice (some ⟨rb a, 0, none⟩) (la + 2) (la + 2)) ∧ w''.cell? ⟨rb a, 0, none⟩ = some (.slice As F.locals.length ks)) wr.drew := ⟨c12, cO, cR, cw⟩
            (refine AnyS.take (i := 0) (v := ?_) (by kernel_rfl) rfl (by kernel_rfl) (by kernel_rfl) (by kernel_rfl) (fun _ _ _ h => h) (by assumption) ⟨⟨by rfl, ?_⟩, fun _ => rfl⟩ ?_; rotate_left; (rintro w' ⟨hs1, hs2, hs3, hs4⟩; go_simp; rfl))
            (refine AnyS.take (i := 1) (v := ?_) (by kernel_rfl) rfl (by kernel_rfl) (by kernel_rfl) (by kernel_rfl) (fun _ _ _ h => h) (by assumption) ⟨⟨by rfl, ?_⟩, fun _ => rfl⟩ ?_; rotate_left; (rintro w' ⟨hs1, hs2, hs3, hs4⟩; go_simp; rfl))
            (refine AnyS.take (i := 2) (v := ?_) (by kernel_rfl) rfl (by kernel_rfl) (by kernel_rfl) (by kernel_rfl) (fun _ _ _ h => h) (by assumption) ⟨⟨by rfl, ?_⟩, fun _ => rfl⟩ ?_; rotate_left; (rintro w' ⟨hs1, hs2, hs3, hs4⟩; go_simp; rfl))
            (refine AnyS.take (i := 3) (v := ?_) (by kernel_rfl) rfl (by kernel_rfl) (by kernel_rfl) (by kernel_rfl) (fun _ _ _ h => h) (by assumption) ⟨⟨by rfl, ?_⟩, fun _ => rfl⟩ ?_; rotate_left; (rintro w' ⟨hs1, hs2, hs3, hs4⟩; go_simp; rfl))
            (refine AnyS.take (i := 4) (v := ?_) (by kernel_rfl) rfl (by kernel_rfl) (by kernel_rfl) (by kernel_rfl) (fun _ _ _ h => h) (by assumption) ⟨⟨by rfl, ?_⟩, fun _ => rfl⟩ ?_; rotate_left; (rintro w' ⟨hs1, hs2, hs3, hs4⟩; go_simp; rfl))
            (refine AnyS.take (i := 5) (v := ?_) (by kernel_rfl) rfl (by kernel_rfl) (by kernel_rfl) (by kernel_rfl) (fun _ _ _ h => h) (by assumption) ⟨⟨by rfl, ?_⟩, fun _ => rfl⟩ ?_; rotate_left; (rintro w' ⟨hs1, hs2, hs3, hs4⟩; go_simp; rfl))
            (refine AnyS.take (i := 6) (v := ?_) (by kernel_rfl) rfl (by kernel_rfl) (by kernel_rfl) (by kernel_rfl) (fun _ _ _ h => h) (by assumption) ⟨⟨by rfl, ?_⟩, fun _ => rfl⟩ ?_; rotate_left; (rintro w' ⟨hs1, hs2, hs3, hs4⟩; go_simp; rfl))
            refine AnyS.one (i := 7) (by kernel_rfl) ?_
            refine wpOpIn_step rfl (fun K hK => ?_)
            go_simp
            refine ⟨trivial, ?_⟩
            have hD1 : RBools (look [bs] wr.drew) (.slice As F.locals.length ks) (tab a 0) := by
              rw [← HVS.out]
              refine (HSA.out.below (Bl.drew (Below.refl _ _))).bools [bs] (fun g hg => ?_)
              have hLa := HLA.out a
              have h1 := HAV.out a hta 0 (by omega) g hg
              have h2 := HN.out.1
              simp
              omega
            have hD2 : ∀ k, (Value.slice (some ⟨bs, 0, none⟩) F.locals.length F.locals.length).ownBlock = some k → k ∈ [bs] := fun g hg => by
              simp [Value.ownBlock] at hg
              simp [hg]
            refine (callsIn_wide.2 (join_any W0.heap.size _ _ _ (tab a 0) [bs] _ (HOS.out.below (Bl.drew (Below.refl _ _))) (by rw [nowK_len]; simp; omega) hD1 (by rw [HSL.out, nowK_len]; simp) hD2)).mono ?_
            clear hD1 hD2
            rintro e w1 ⟨rfl, ho1, hg1⟩
            have hg1' : wr.grownBy w1 (some bs) := undrew hg1
            obtain ⟨hbb, csb, hbx⟩ := HOS.out.box (g := bs) rfl
            have HS2 := Lib.hid (HS1.out.grownSet hg1' hbb hbx (fun b hb k hk g hg => by
              have h1 := HAV.out b hb k hk g hg
              have h2 := HN.out.1
              omega))
            have hck : CK [bs] wr w1 := CK.of_chg (Chg.grown hg1' (fun k hk => by simp at hk; simp [hk]))
            have HM2 : Hid (Marks W0.heap.size ds w1) := HM1.out.keep (fun k o hk ho => (hg1'.block k (Array.getElem?_eq_some_iff.1 hk).1 (fun e => by
              simp only [Option.some.injEq] at e
              subst e
              rw [hbx] at hk
              cases hk
              cases ho)).trans hk)
            have HB11' := Lib.hid (hck.bx HB11.out (by have := HB11.out.ne hbx (by simp); simpa using this))
            have HB12' := Lib.hid (hck.bx HB12.out (by have := HB12.out.ne hbx (by simp); simpa using this))
            have HO2 : Hid (OSet W0.heap.size w1 (.slice (some ⟨bs, 0, none⟩) F.locals.length F.locals.length) (nowK F.blocks.length (fun t => tab t 0) (List.replicate F.locals.length false) (B.fin.targets.take (j + 1)))) := by
              rw [HK.out, if_pos ⟨ht0, htai⟩]
              exact ho1
            have c12' := HB12'.out.cell 0
            have cO' := HS2.out.cO
            have cR' := HS2.out.cR (b := a) hta hta
            have hLa := HLA.out a
            have cw' := HS2.out.cRow (b := a) (k := 0) hta (by omega)
            rw [if_pos (by omega), HVS.out] at cw'
            have hlal : la = (F.blk a).code.length := by
              have h1 : some (Value.slice (some ⟨rb a, 0, none⟩) (la + 2) (la + 2)) = some (Value.slice (some ⟨rb a, 0, none⟩) (L a) (L a)) := cR.symm.trans (HS1.out.cR (b := a) hta hta)
              simp only [Option.some.injEq, Value.slice.injEq] at h1
              omega
            rw [hLa, ← hlal] at cR'
            clear hLa hlal hck hbx hbb hg1 hg1' ho1
            refine hK _ _ ⟨⟨c12', cO', cR', cw'⟩, ?_⟩
            clear hK K cO cR cw c12 cO' cR' cw' c12' hSd ca cF9
            refine AnyS.done (by kernel_rfl) ?_ _
            go_wp2_with fail
            go_roundw
            case rel => exact ⟨j + 1, by go_num, by omega, HS2, HM2, HB11', HB12', HO2⟩
            case measure => simp [intOf]; omega
          · have htai : (F.blocks.length : Int) ≤ (a : Int) := by omega
            have HO2 : Hid (OSet W0.heap.size wr (.slice (some ⟨bs, 0, none⟩) F.locals.length F.locals.length) (nowK F.blocks.length (fun t => tab t 0) (List.replicate F.locals.length false) (B.fin.targets.take (j + 1)))) := by
              rw [HK.out, if_neg (by omega)]
              exact HOS
            go_wp2_with fail
            go_roundw
            case rel => exact ⟨j + 1, by go_num, by omega, HS1, HM1, HB11, HB12, HO2⟩
            case measure => simp [intOf]; omega
        · have htn : t < 0 := by omega
          have HO2 : Hid (OSet W0.heap.size wr (.slice (some ⟨bs, 0, none⟩) F.locals.length F.locals.length) (nowK F.blocks.length (fun t => tab t 0) (List.replicate F.locals.length false) (B.fin.targets.take (j + 1)))) := by
            rw [HK.out, if_neg (by omega)]
            exact HOS
          go_wp2_with fail
          go_roundw
          case rel => exact ⟨j + 1, by go_num, by omega, HS1, HM1, HB11, HB12, HO2⟩
          case measure => simp [intOf]; omega
      · obtain rfl : j = B.fin.targets.length := by omega
        have HOSn : Hid (OSet W0.heap.size wr (.slice (some ⟨bs, 0, none⟩) F.locals.length F.locals.length) (nowOf F (fun t => tab t 0) i)) := by
          have := HOS.out
          rw [List.take_length, HBB.out] at this
          exact this
        clear HOS hj hjl
        obtain ⟨lB, hlB⟩ : ∃ lB, lB = B.code.length := ⟨_, rfl⟩
        have hLi : L i = lB + 2 := by rw [HLi.out, hlB]
        have hlB21 : lB ≤ 21 := by omega
        obtain ⟨hsa, hsl⟩ := HS1.out.set i hi 0 (by omega)
        obtain ⟨As, ks, hvs⟩ := hsa.shape
        rw [hsl] at hvs
        have HVS := Lib.hid hvs
        have HSI := Lib.hid hsa
        have HSIL := Lib.hid hsl
        have cO := HS1.out.cO
        have cR := HS1.out.cR (b := i) hi hi
        have cw := HS1.out.cRow (b := i) (k := 0) hi (by omega)
        rw [if_pos (by omega), hvs] at cw
        rw [hLi] at cR
        have c12 := HB12.out.cell 0
        have c11 := HB11.out.cell 0
        have hla0 : (0 : Int) < (lB : Int) + 2 := by omega
        have HLB := Lib.hid hlB
        have HLI := Lib.hid hLi
        clear hsa hsl hvs hlB hLi
        go_upto_region 32 with fail
        have hwr : IntKind.i64.wrap ((lB : Int) + 2 - 1) = (lB : Int) + 1 := by rw [IntWalk.i64_in _ (by omega)]; omega
        have hlt1 : (lB : Int) + 1 < (lB : Int) + 2 := by omega
        refine region_anyS (S := fun w'' => w''.cell? ⟨b12, 0, none⟩ = some (.slice (some ⟨bs, 0, none⟩) F.locals.length F.locals.length) ∧ w''.cell? ⟨bO, 0, none⟩ = some (.slice (some ⟨bR, 0, none⟩) F.blocks.length F.blocks.length) ∧ w''.cell? ⟨bR, i, none⟩ = some (.slice (some ⟨rb i, 0, none⟩) (lB + 2) (lB + 2)) ∧ w''.cell? ⟨b11, 0, none⟩ = some (.int .i64 (i : Int))) ?_
        have hSd : (fun w'' : World => w''.cell? ⟨b12, 0, none⟩ = some (.slice (some ⟨bs, 0, none⟩) F.locals.length F.locals.length) ∧ w''.cell? ⟨bO, 0, none⟩ = some (.slice (some ⟨bR, 0, none⟩) F.blocks.length F.blocks.length) ∧ w''.cell? ⟨bR, i, none⟩ = some (.slice (some ⟨rb i, 0, none⟩) (lB + 2) (lB + 2)) ∧ w''.cell? ⟨b11, 0, none⟩ = some (.int .i64 (i : Int))) wr.drew := ⟨c12, cO, cR, c11⟩
        (refine AnyS.take (i := 0) (v := ?_) (by kernel_rfl) rfl (by kernel_rfl) (by kernel_rfl) (by kernel_rfl) (fun _ _ _ h => h) (by assumption) ⟨⟨by rfl, ?_⟩, fun _ => rfl⟩ ?_; rotate_left; (rintro w' ⟨hs1, hs2, hs3, hs4⟩; go_simp; rfl))
        (refine AnyS.take (i := 1) (v := ?_) (by kernel_rfl) rfl (by kernel_rfl) (by kernel_rfl) (by kernel_rfl) (fun _ _ _ h => h) (by assumption) ⟨⟨by rfl, ?_⟩, fun _ => rfl⟩ ?_; rotate_left; (rintro w' ⟨hs1, hs2, hs3, hs4⟩; go_simp; rfl))
        (refine AnyS.take (i := 2) (v := ?_) (by kernel_rfl) rfl (by kernel_rfl) (by kernel_rfl) (by kernel_rfl) (fun _ _ _ h => h) (by assumption) ⟨⟨by rfl, ?_⟩, fun _ => rfl⟩ ?_; rotate_left; (rintro w' ⟨hs1, hs2, hs3, hs4⟩; go_simp; rfl))
        (refine AnyS.take (i := 3) (v := ?_) (by kernel_rfl) rfl (by kernel_rfl) (by kernel_rfl) (by kernel_rfl) (fun _ _ _ h => h) (by assumption) ⟨⟨by rfl, ?_⟩, fun _ => rfl⟩ ?_; rotate_left; (rintro w' ⟨hs1, hs2, hs3, hs4⟩; go_simp; rfl))
        (refine AnyS.take (i := 4) (v := ?_) (by kernel_rfl) rfl (by kernel_rfl) (by kernel_rfl) (by kernel_rfl) (fun _ _ _ h => h) (by assumption) ⟨⟨by rfl, ?_⟩, fun _ => rfl⟩ ?_; rotate_left; (rintro w' ⟨hs1, hs2, hs3, hs4⟩; go_simp; rfl))
        (refine AnyS.take (i := 5) (v := ?_) (by kernel_rfl) rfl (by kernel_rfl) (by kernel_rfl) (by kernel_rfl) (fun _ _ _ h => h) (by assumption) ⟨⟨by rfl, ?_⟩, fun _ => rfl⟩ ?_; rotate_left; (rintro w' ⟨hs1, hs2, hs3, hs4⟩; go_simp; rfl))
        (refine AnyS.take (i := 6) (v := ?_) (by kernel_rfl) rfl (by kernel_rfl) (by kernel_rfl) (by kernel_rfl) (fun _ _ _ h => h) (by assumption) ⟨⟨by rfl, ?_⟩, fun _ => rfl⟩ ?_; rotate_left; (rintro w' ⟨hs1, hs2, hs3, hs4⟩; go_simp; rfl))
        (refine AnyS.take (i := 7) (v := ?_) (by kernel_rfl) rfl (by kernel_rfl) (by kernel_rfl) (by kernel_rfl) (fun _ _ _ h => h) (by assumption) ⟨⟨by rfl, ?_⟩, fun _ => rfl⟩ ?_; rotate_left; (rintro w' ⟨hs1, hs2, hs3, hs4⟩; go_simp; rfl))
        (refine AnyS.take (i := 8) (v := ?_) (by kernel_rfl) rfl (by kernel_rfl) (by kernel_rfl) (by kernel_rfl) (fun _ _ _ h => h) (by assumption) ⟨⟨by rfl, ?_⟩, fun _ => rfl⟩ ?_; rotate_left; (rintro w' ⟨hs1, hs2, hs3, hs4⟩; go_simp; rfl))
        (refine AnyS.take (i := 9) (v := ?_) (by kernel_rfl) rfl (by kernel_rfl) (by kernel_rfl) (by kernel_rfl) (fun _ _ _ h => h) (by assumption) ⟨⟨by rfl, ?_⟩, fun _ => rfl⟩ ?_; rotate_left; (rintro w' ⟨hs1, hs2, hs3, hs4⟩; go_simp; rfl))
        (refine AnyS.take (i := 10) (v := ?_) (by kernel_rfl) rfl (by kernel_rfl) (by kernel_rfl) (by kernel_rfl) (fun _ _ _ h => h) (by assumption) ⟨⟨by rfl, ?_⟩, fun _ => rfl⟩ ?_; rotate_left; (rintro w' ⟨hs1, hs2, hs3, hs4⟩; go_simp; rfl))
        (refine AnyS.take (i := 11) (v := ?_) (by kernel_rfl) rfl (by kernel_rfl) (by kernel_rfl) (by kernel_rfl) (fun _ _ _ h => h) (by assumption) ⟨⟨by rfl, ?_⟩, fun _ => rfl⟩ ?_; rotate_left; (rintro w' ⟨hs1, hs2, hs3, hs4⟩; go_simp; rfl))
        refine AnyS.one (i := 12) (by kernel_rfl) ?_
        refine wpOpIn_step rfl (fun K hK => ?_)
        have hrow := HS1.out.row i hi
        rw [HLI.out] at hrow
        have hlBl : lB + 1 < lB + 2 := by omega
        have cW := (hrow.2.drew.cell (lB + 1)).trans (tabA_get hlBl)
        have fW := hrow.2.drew.frozen (lB + 1)
        go_simp
        have HRW := Lib.hid hrow.2
        have hput := HS1.out.put (i := i) (k := lB + 1) hi HOSn.out (nowOf_len _ _ _) (by rw [HLI.out]; omega) (by rw [HLI.out]; omega)
        have hmax : max (L i) (lB + 1 + 1) = L i := by rw [HLI.out]; omega
        rw [hmax, upd_self] at hput
        have hput2 := hput.tab_congr (tab' := tabD tab F B (nowOf F (fun t => tab t 0) i) i 0) (fun b _ k hk => by
          unfold upd2 tabD
          by_cases e : b = i
          · subst e
            rw [HLI.out] at hk
            rw [← HLB.out]
            by_cases e2 : k = lB + 1
            · subst e2
              rw [if_pos ⟨rfl, rfl⟩, if_pos ⟨rfl, by omega, by omega⟩, Nat.sub_self]
              rfl
            · rw [if_neg (fun h => e2 h.2), if_neg (fun h => e2 (by omega))]
          · rw [if_neg (fun h => e h.1), if_neg (fun h => e h.1)])
        have HPUT := Lib.hid hput2.drew
        have HM3 := Lib.hid ((HM1.out.setCell HRW.out (lB + 1) (.slice (some ⟨bs, 0, none⟩) F.locals.length F.locals.length)).below (Bl.drew (Below.refl _ _)))
        have HB113 := Lib.hid ((HB11.out.far (p := ⟨rb i, lB + 1, none⟩) (HB11.out.ne HRW.out (by simp)) (.slice (some ⟨bs, 0, none⟩) F.locals.length F.locals.length)).drew)
        have hne12 : b12 ≠ rb i := by have := HRB.out i hi; have := HN.out; omega
        have HB123 := Lib.hid ((HB12.out.far (p := ⟨rb i, lB + 1, none⟩) hne12 (.slice (some ⟨bs, 0, none⟩) F.locals.length F.locals.length)).drew)
        have HO3 := Lib.hid ((HOSn.out.ck (CK.of_chg (Chg.setCell (D := [rb i]) wr (p := ⟨rb i, lB + 1, none⟩) (by simp) (.slice (some ⟨bs, 0, none⟩) F.locals.length F.locals.length))) (fun g hg => by simpa using HOSn.out.apart HRW.out (by simp) g hg)).below (Bl.drew (Below.refl _ _)))
        have HSI3 := Lib.hid ((HSI.out.ck (CK.of_chg (Chg.setCell (D := [rb i]) wr (p := ⟨rb i, lB + 1, none⟩) (by simp) (.slice (some ⟨bs, 0, none⟩) F.locals.length F.locals.length))) (fun g hg => by simpa using HSI.out.apart HRW.out (by simp) g hg)).below (Bl.drew (Below.refl _ _)))
        obtain ⟨w3, hw3⟩ : ∃ w3, w3 = (wr.setCell ⟨rb i, lB + 1, none⟩ (.slice (some ⟨bs, 0, none⟩) F.locals.length F.locals.length)).drew := ⟨_, rfl⟩
        rw [← hw3] at HPUT HM3 HB113 HB123 HO3 HSI3 ⊢
        clear hrow cW fW hput hput2 hmax hw3 hSd HSI HS1 HM1 HB11 HB12 HOSn cO cR cw c11 c12
        have cO := HPUT.out.cO
        have cR := HPUT.out.cR (b := i) hi hi
        rw [HLI.out] at cR
        have c12 := HB123.out.cell 0
        have c11 := HB113.out.cell 0
        refine hK _ _ ⟨⟨c12, cO, cR, c11⟩, ?_⟩
        clear hK K
        refine AnyS.done (by kernel_rfl) ?_ _
        clear cO cR c12
        go_upto_region 33 with fail
        have hff := HPUT.out.f
        rw [HFC.out] at hff
        have HFF := Lib.hid hff
        have le3 := Bl.le HPUT.out.bl
        have d0 := le3 _ _ HC0.out.1
        have d1 := le3 _ _ HC0.out.2.1
        have d2 := le3 _ _ HC0.out.2.2.1
        have d3 := le3 _ _ HC0.out.2.2.2
        clear le3 hff
        refine region_anyS (S := (fun w'' : World => (∀ j, w''.cell? ⟨bF, j, none⟩ = (#[.string F.name, .int .i64 mo, .int .i64 pa, .slice Ab nb cb, .int .i64 ar, .int .i64 F.result.kind, .int .i64 F.result.id, .slice Ar F.result.args.length kr, .slice Al F.locals.length kl, .slice (some adb) F.blocks.length kk, .slice At nt ct] : Array Value)[j]?) ∧ w''.cell? ⟨b11, 0, none⟩ = some (.int .i64 (i : Int)) ∧ w''.cell? (adb.add (i * 4)) = some (.slice Ac B.code.length kc) ∧ w''.cell? ⟨(adb.add (i * 4)).block, (adb.add (i * 4)).off + 1, none⟩ = some (.int .i64 B.fin.kind) ∧ w''.cell? ⟨(adb.add (i * 4)).block, (adb.add (i * 4)).off + 2, none⟩ = some (.int .i64 B.fin.a) ∧ w''.cell? ⟨(adb.add (i * 4)).block, (adb.add (i * 4)).off + 3, none⟩ = some (.slice Ag B.fin.targets.length kg))) ?_
        have hSd : (fun w'' : World => (∀ j, w''.cell? ⟨bF, j, none⟩ = (#[.string F.name, .int .i64 mo, .int .i64 pa, .slice Ab nb cb, .int .i64 ar, .int .i64 F.result.kind, .int .i64 F.result.id, .slice Ar F.result.args.length kr, .slice Al F.locals.length kl, .slice (some adb) F.blocks.length kk, .slice At nt ct] : Array Value)[j]?) ∧ w''.cell? ⟨b11, 0, none⟩ = some (.int .i64 (i : Int)) ∧ w''.cell? (adb.add (i * 4)) = some (.slice Ac B.code.length kc) ∧ w''.cell? ⟨(adb.add (i * 4)).block, (adb.add (i * 4)).off + 1, none⟩ = some (.int .i64 B.fin.kind) ∧ w''.cell? ⟨(adb.add (i * 4)).block, (adb.add (i * 4)).off + 2, none⟩ = some (.int .i64 B.fin.a) ∧ w''.cell? ⟨(adb.add (i * 4)).block, (adb.add (i * 4)).off + 3, none⟩ = some (.slice Ag B.fin.targets.length kg)) w3.drew := ⟨HFF.out.drew.cell, c11, d0, d1, d2, d3⟩
        (refine AnyS.take (i := 0) (v := ?_) (by kernel_rfl) rfl (by kernel_rfl) (by kernel_rfl) (by kernel_rfl) (fun _ _ _ h => h) (by assumption) ⟨⟨by rfl, ?_⟩, fun _ => rfl⟩ ?_; rotate_left; (rintro w' ⟨hs1, hs2, hs3, hs4, hs5, hs6⟩; go_simp; rfl))
        (refine AnyS.take (i := 1) (v := ?_) (by kernel_rfl) rfl (by kernel_rfl) (by kernel_rfl) (by kernel_rfl) (fun _ _ _ h => h) (by assumption) ⟨⟨by rfl, ?_⟩, fun _ => rfl⟩ ?_; rotate_left; (rintro w' ⟨hs1, hs2, hs3, hs4, hs5, hs6⟩; go_simp; rfl))
        (refine AnyS.take (i := 2) (v := ?_) (by kernel_rfl) rfl (by kernel_rfl) (by kernel_rfl) (by kernel_rfl) (fun _ _ _ h => h) (by assumption) ⟨⟨by rfl, ?_⟩, fun _ => rfl⟩ ?_; rotate_left; (rintro w' ⟨hs1, hs2, hs3, hs4, hs5, hs6⟩; go_simp; rfl))
        (refine AnyS.take (i := 3) (v := ?_) (by kernel_rfl) rfl (by kernel_rfl) (by kernel_rfl) (by kernel_rfl) (fun _ _ _ h => h) (by assumption) ⟨⟨by rfl, ?_⟩, fun _ => rfl⟩ ?_; rotate_left; (rintro w' ⟨hs1, hs2, hs3, hs4, hs5, hs6⟩; go_simp; rfl))
        (refine AnyS.take (i := 4) (v := ?_) (by kernel_rfl) rfl (by kernel_rfl) (by kernel_rfl) (by kernel_rfl) (fun _ _ _ h => h) (by assumption) ⟨⟨by rfl, ?_⟩, fun _ => rfl⟩ ?_; rotate_left; (rintro w' ⟨hs1, hs2, hs3, hs4, hs5, hs6⟩; go_simp; rfl))
        (refine AnyS.take (i := 5) (v := ?_) (by kernel_rfl) rfl (by kernel_rfl) (by kernel_rfl) (by kernel_rfl) (fun _ _ _ h => h) (by assumption) ⟨⟨by rfl, ?_⟩, fun _ => rfl⟩ ?_; rotate_left; (rintro w' ⟨hs1, hs2, hs3, hs4, hs5, hs6⟩; go_simp; rfl))
        refine AnyS.one (i := 6) (by kernel_rfl) ?_
        refine wpOpIn_step rfl (fun K hK => ?_)
        go_simp
        refine ⟨trivial, ?_⟩
        have hFW : RFn w3.drew.cell? (.agg #[.string F.name, .int .i64 mo, .int .i64 pa, .slice Ab nb cb, .int .i64 ar, .int .i64 F.result.kind, .int .i64 F.result.id, .slice Ar F.result.args.length kr, .slice Al F.locals.length kl, .slice (some adb) F.blocks.length kk, .slice At nt ct]) F := by
          rw [← HFC.out]
          exact HF.out.mono (Bl.le (Bl.drew HPUT.out.bl))
        refine (callsIn_wide.2 (backwards_any #[.string F.name, .int .i64 mo, .int .i64 pa, .slice Ab nb cb, .int .i64 ar, .int .i64 F.result.kind, .int .i64 F.result.id, .slice Ar F.result.args.length kr, .slice Al F.locals.length kl, .slice (some adb) F.blocks.length kk, .slice At nt ct] undef undef undef undef w3.drew _ rfl F hFW B Ac Ag kc kg)).mono ?_
        clear hFW
        rintro e w4 ⟨rfl, hw4⟩
        have hb34 : Below w3.heap.size w3 w4 := by rw [hw4]; exact Bl.alloc (Bl.alloc (Bl.drew (Below.refl _ _)) _) _
        have HS4 := Lib.hid (HPUT.out.below hb34)
        have HM4 := Lib.hid (HM3.out.below hb34)
        have HB114 := Lib.hid (HB113.out.below hb34)
        have HB124 := Lib.hid (HB123.out.below hb34)
        have HO4 := Lib.hid (HO3.out.below hb34)
        have HI4 := Lib.hid (HSI3.out.below hb34)
        have H29 : Hid (Bx w4 w3.heap.size 29 FC) := by
          show Bx _ _ _ _
          rw [hw4, HFC.out]
          exact (Bx.at0 _ _ _ rfl).alloc _
        have H66 : Hid (Bx w4 (w3.heap.size + 1) 66 #[.slice Ac B.code.length kc, .int .i64 B.fin.kind, .int .i64 B.fin.a, .slice Ag B.fin.targets.length kg]) := by
          show Bx _ _ _ _
          rw [hw4]
          exact Bx.at0 _ _ _ (by simp)
        have hff4 := HFF.out.below hb34
        have hS4 := And.intro hff4.cell (And.intro (HB114.out.cell 0) (And.intro (Bl.le hb34 _ _ d0) (And.intro (Bl.le hb34 _ _ d1) (And.intro (Bl.le hb34 _ _ d2) (Bl.le hb34 _ _ d3)))))
        refine hK _ _ ⟨hS4, ?_⟩
        clear hK K hS4 hff4 hw4 HPUT HM3 HB113 HB123 HO3 HSI3 HFF hSd d0 d1 d2 d3 c11
        refine AnyS.done (by kernel_rfl) ?_ _
        have hN0 := HN.out
        go_wp2_with fail
        refine solve_rf F W0 FC HF.out HS.out bF bO bR bP rb L HL.out lv _ tab i hi B HBB.out (nowOf F (fun t => tab t 0) i) (nowOf_len _ _ _) _ ds w4 b11 b12 (w3.heap.size + 1) w3.heap.size Ac Ag kc kg HC.out hc1 hc2 ⟨_, _, rfl, hg1, hg2, HG.out⟩ H29.out H66.out (sv i 0) (tab i 0) (by omega) (fun b hb => by have := HRB.out b hb; omega) _ rfl rfl rfl rfl rfl ⟨_, _, HS4.out, HM4.out, HB114.out, HB124.out, HO4.out, HI4.out⟩ ?_
        clear HS4 HM4 HB114 HB124 HO4 HI4 H29 H66 hb34
        intro D W5 vn sv5 hs5 hm5 hb115 hb125 ho5 hi5
        obtain ⟨An, kn, hvn⟩ := ho5.shape
        rw [rowD_len, nowOf_len] at hvn
        subst hvn
        have hnr : rowD F B (nowOf F (fun t => tab t 0) i) (B.code.length + 1) = nrow F (fun t => tab t 0) i 0 := by
          unfold nrow
          rw [← HBB.out, Nat.sub_zero]
        have hs6 := hs5.tab_congr (tab' := tabSet F tab i) (fun b _ k hk => by
          unfold tabD tabSet
          by_cases e : b = i
          · subst e
            rw [HLI.out] at hk
            rw [if_pos ⟨rfl, by omega, by rw [← HLB.out]; omega⟩, if_pos rfl]
            unfold nrow
            rw [← HBB.out]
          · rw [if_neg (fun h => e h.1), if_neg e])
        rw [hnr] at ho5
        have HS6 := Lib.hid hs6
        have HM6 := Lib.hid hm5
        have HB116 := Lib.hid hb115
        have HB126 := Lib.hid hb125
        have HO6 := Lib.hid ho5
        have HI6 : Hid (OSet W0.heap.size W5 (.slice As F.locals.length ks) (tab i 0)) := by rw [← HVS.out]; exact hi5
        clear hs5 hm5 hb115 hb125 ho5 hi5 hs6 hnr hN0
        have c12 := HB126.out.cell 0
        go_wp2_with fail
        refine (equal_any _ _ (tab i 0) (nrow F (fun t => tab t 0) i 0) W5 (by have := HI6.out.bools [] (fun _ _ => by simp); rwa [look_nil] at this) (by have := HO6.out.bools [] (fun _ _ => by simp); rwa [look_nil] at this) (by rw [nrow_len, HSIL.out])).mono ?_
        rintro e w6 hpost
        obtain ⟨rfl, hb6⟩ := hpost
        have HS7 := Lib.hid (HS6.out.below hb6)
        have HM7 := Lib.hid (HM6.out.below hb6)
        have HB117 := Lib.hid (HB116.out.below hb6)
        clear hb6 HS6 HM6 HB116 HB126 HO6 HI6 c12
        have hq0 := HS7.out.fam.1 F.blocks.length (Nat.le_refl _)
        rw [lsG_at, HH5.out] at hq0
        have HQ0 := Lib.hid hq0
        clear hq0
        have hps := pstep HP.out (by
          have := predL_len F i 20 (Fn.targets_le HS.out) F.blocks.length
          omega)
        have HPS := Lib.hid hps
        clear hps
        by_cases hsame : tab i 0 = nrow F (fun t => tab t 0) i 0
        · have hps2 := HPS.out
          rw [if_pos hsame] at hps2
          have HPS2 := Lib.hid hps2
          have hend : ∀ off', (off' = off5 + 1 ∨ k5 = 1 ∧ off' = off5) → SM W0 FC F.locals.length F.blocks.length L bF bO bR bP rb (upd lv F.blocks.length (.slice (some ⟨g5, off', none⟩) q.length (k5 - 1))) (lsG F.blocks.length (predL F F.blocks.length) q) sv5 (tabSet F tab i) F.blocks.length L w6 := fun off' ho => by
            have := HS7.out.cut (HQ0.out.tail.2.2.2.2 off' ho) (by rw [HH5.out]; rfl)
            rw [lsG_updQ] at this
            exact this
          have HEND := Lib.hid hend
          clear hps2 hend
          rw [decide_eq_true hsame]
          go_wp2_with fail
          · have hk1 : k5 = 1 := by assumption
            refine ⟨_, HPS2.out.2, q, WIq.intro rfl rfl rfl rfl (lv := upd lv F.blocks.length (.slice (some ⟨g5, off5, none⟩) q.length (k5 - 1))) ?_ HM7.out (HEND.out off5 (.inr ⟨hk1, rfl⟩)) HPS2.out.1⟩
            rw [upd_same, hk1]
            rfl
          · refine ⟨_, HPS2.out.2, q, WIq.intro rfl rfl rfl rfl (lv := upd lv F.blocks.length (.slice (some ⟨g5, off5 + 1, none⟩) q.length (k5 - 1))) ?_ HM7.out (HEND.out (off5 + 1) (.inl rfl)) HPS2.out.1⟩
            rw [upd_same]
            rfl
        · have hps2 := HPS.out
          rw [if_neg hsame] at hps2
          have HPS2 := Lib.hid hps2
          clear hps2
          rw [decide_eq_false hsame]
          have c11 := HB117.out.cell 0
          have cP := HS7.out.cP hi
          have hql := HP.out.qlen
          have hcc := cntH_le (fun t => tab t 0) F.locals.length F.blocks.length (fun b hb => HP.out.len b hb 0 (by omega))
          have hcc2 : F.blocks.length * F.locals.length ≤ 40 * 40 := Nat.mul_le_mul hbl hll
          have hpl := predL_len F i 20 (Fn.targets_le HS.out) F.blocks.length
          have hnx : ((i : Int) :: q).length + (predL F F.blocks.length i).length ≤ 1000000000 := by
            have : cntH (fun t => tab t 0) F.blocks.length * 800 ≤ 1600 * 800 := Nat.mul_le_mul_right _ (by omega)
            omega
          have hri : RInts w6.cell? (lv i) (predL F F.blocks.length i) := by
            have := (HS7.out.fam.1 i (by omega)).ints0
            rwa [lsG_lt hi] at this
          have HRI := Lib.hid hri
          have hsz := HS7.out.bl.size
          clear hql hcc hcc2 hpl hri
          go_wp2_with (at_builtin; refine wpList_append_q W0.heap.size _ rfl (.tmp 182) (.tmp 186) rfl rfl rfl HQ0.out HRI.out hsz hnx ?_; intro v' w7 hq hgr ho; obtain ⟨g6, off6, k6, rfl⟩ := hq.form (by simp); have HQ7 := Lib.hid hq; have HG7 := Lib.hid hgr; have HO7 := Lib.hid ho; clear hq hgr ho)
          all_goals
            have hsq := (HS7.out.queue HQ7.out (by rw [HH5.out]; exact HG7.out) (by rw [HH5.out]; exact HO7.out))
            rw [lsG_updQ] at hsq
            have hm7 : Marks W0.heap.size (mark D :: ds) w7 := HM7.out.keep (fun k o hk ho => (HG7.out.block k (Array.getElem?_eq_some_iff.1 hk).1 (fun e => by
              simp only [Act.eval, Value.ownBlock] at e
              have e' : k = g5 := by simpa [Value.ownBlock] using e
              obtain ⟨_, _, cs, hbx⟩ := HQ0.out.lt (g := g5) rfl
              rw [e', hbx] at hk
              cases hk
              cases ho)).trans hk)
            have hend : ∀ off', (off' = off6 + 1 ∨ k6 = 1 ∧ off' = off6) → SM W0 FC F.locals.length F.blocks.length L bF bO bR bP rb (upd (upd lv F.blocks.length (.slice (some ⟨g6, off6, none⟩) (((i : Int) :: q) ++ predL F F.blocks.length i).length k6)) F.blocks.length (.slice (some ⟨g6, off', none⟩) (q ++ predL F F.blocks.length i).length (k6 - 1))) (lsG F.blocks.length (predL F F.blocks.length) (q ++ predL F F.blocks.length i)) sv5 (tabSet F tab i) F.blocks.length L w7 := fun off' ho => by
              have := hsq.cut (HQ7.out.tail.2.2.2.2 off' ho) (by rw [upd_same]; rfl)
              rw [lsG_updQ] at this
              exact this
          · have hk1 : k6 = 1 := by assumption
            refine ⟨_, HPS2.out.2, _, WIq.intro rfl rfl rfl rfl ?_ hm7 (hend off6 (.inr ⟨hk1, rfl⟩)) HPS2.out.1⟩
            rw [upd_same, hk1, List.length_append]
            rfl
          · refine ⟨_, HPS2.out.2, _, WIq.intro rfl rfl rfl rfl ?_ hm7 (hend (off6 + 1) (.inl rfl)) HPS2.out.1⟩
            rw [upd_same, List.length_append]
            rfl
end Go.Proofs.YtdkjkgokllmkmaaGreatDoor.Lv
