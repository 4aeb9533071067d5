/- Walks: solve, whole. -/
import Derived.Test.YtdkjkgokllmkmaaGreatDoorLwf
namespace Go.Proofs.YtdkjkgokllmkmaaGreatDoor.Lv
open Go.RowKit
set_option linter.unusedVariables false
set_option linter.unusedSimpArgs false
/-- What solve hands over: of each block the sets ahead of its points, and, last, the one behind its terminator. -/
noncomputable def solveS (F : Fn) (b k : Nat) : List Bool := (List.range F.locals.length).map fun v => if k ≤ (F.blk b).code.length then liveB F (b, k) v else afterB F (b, (F.blk b).code.length) v
noncomputable def solveL (F : Fn) : List (List (List Bool)) := (List.range F.blocks.length).map fun b => (List.range ((F.blk b).code.length + 2)).map (solveS F b)
abbrev RSets3 := RSl (KSl (KSl KBool 1) 1) 1
theorem leaves_marks {F : Fence} {n : Nat} {P : Program} {fn : Func} {tmps : Array Value} {R : Ending → World → Prop} {base : Nat} {T : World → Prop} (hT : ∀ (w : World) (D : Nat) (o : Obj), T w → base ≤ D → w.heap[D]? = some o → o.isCells = false → T (w.putObj D (.deferred none)))
    (hR : ∀ w, T w → ∃ v, (results fn tmps).run P w = .ok v w ∧ R (.returned v) w) : ∀ (Ds : List Nat) (w : World), Ds.Nodup → (∀ D, D ∈ Ds → base ≤ D ∧ w.heap[D]? = some (.deferred (some []))) → T w → LeavesInM F n P fn tmps R (Ds.map mark) .returning w
  | [], w, _, _, h => hR w h
  | D :: Ds, w, hn, hd, h => by
    obtain ⟨h1, h2⟩ := List.nodup_cons.1 hn
    obtain ⟨hb, hh⟩ := hd D (by simp)
    refine ⟨by simp, .inl ⟨D, _, rfl, run_takeDeferred hh, leaves_marks hT hR Ds _ h2 (fun k hk => ?_) (hT w D _ h hb hh rfl)⟩⟩
    have hkD : k ≠ D := fun e => h1 (e ▸ hk)
    exact ⟨(hd k (List.mem_cons_of_mem _ hk)).1, (World.putObj_heap_other hkD).trans (hd k (List.mem_cons_of_mem _ hk)).2⟩
theorem rsl_tab {α : Type} {K : Lk → α → List Value → Prop} {sz : Nat} {c : Lk} {g n : Nat} (hn : n ≤ maxLen) (f : Nat → Value) (xs : Nat → List α) (hc : ∀ j, j < n → c ⟨g, j, none⟩ = some (f j)) (hr : ∀ j, j < n → RSl K sz c (f j) (xs j)) :
    RSl (KSl K sz) 1 c (.slice (some ⟨g, 0, none⟩) n n) ((List.range n).map xs) := by
  refine ⟨some ⟨g, 0, none⟩, n, by simp, by simp, hn, fun j x hj => ?_⟩
  have hjn : j < n := by have := (List.getElem?_eq_some_iff.1 hj).1; simpa using this
  rw [List.getElem?_map, List.getElem?_range hjn] at hj
  simp only [Option.map_some, Option.some.injEq] at hj
  subst hj
  refine ⟨⟨g, 0, none⟩, [f j], rfl, rfl, ⟨_, rfl, hr j hjn⟩, fun i u hu => ?_⟩
  have hi : i = 0 := by have := (List.getElem?_eq_some_iff.1 hu).1; simp at this; exact this
  subst hi
  simp only [List.getElem?_cons_zero, Option.some.injEq] at hu
  subst hu
  rw [Addr.add_lit, show 0 + (j * 1 + 0) = j by omega]
  exact hc j hjn
theorem list_ext_getD {xs ys : List Bool} (hl : xs.length = ys.length) (h : ∀ v, v < xs.length → xs.getD v false = ys.getD v false) : xs = ys := by
  apply List.ext_getElem hl
  intro v h1 h2
  have := h v h1
  simpa [List.getD_eq_getElem?_getD, h1, h2] using this
theorem SM.result {W0 : World} {fc : Array Value} {F : Fn} {L : Nat → Nat} {bF bO R P : Nat} {rb : Nat → Nat} {lv : Nat → Value} {ls : Nat → List Int} {sv : Nat → Nat → Value} {tab : Nat → Nat → List Bool} {w : World} (hL : L = fun b => (F.blk b).code.length + 2) (hs : Szd F)
    (h : SM W0 fc F.locals.length F.blocks.length L bF bO R P rb lv ls sv tab F.blocks.length L w) (ht : ∀ b, b < F.blocks.length → ∀ k, k < L b → tab b k = solveS F b k) : RSets3 w.cell? (.slice (some ⟨R, 0, none⟩) F.blocks.length F.blocks.length) (solveL F) := by
  have hbl := hs.blocks
  refine rsl_tab (by simp only [maxLen]; omega) (fun b => .slice (some ⟨rb b, 0, none⟩) (L b) (L b)) _ (fun b hb => h.cR hb hb) (fun b hb => ?_)
  have hc := hs.code _ (getD_mem hb)
  have hc2 : (F.blk b).code.length ≤ 21 := hc
  have hLb : L b = (F.blk b).code.length + 2 := by rw [hL]
  rw [← hLb]
  refine rsl_tab (by simp only [maxLen]; omega) (sv b) _ (fun k hk => ?_) (fun k hk => ?_)
  · rw [h.cRow hb hk, if_pos hk]
  · have := ((h.set b hb k hk).1).bools [] (fun _ _ => by simp)
    rw [look_nil, ht b hb k hk] at this
    exact this
theorem PInv.table {F : Fn} {E : Nat} {tab : Nat → Nat → List Bool} (h : PInv F E tab []) {b k : Nat} (hb : b < F.blocks.length) (hk : k < (F.blk b).code.length + 2) : tab b k = solveS F b k := by
  refine list_ext_getD (by rw [h.len b hb k hk]; simp [solveS]) (fun v hv => ?_)
  rw [h.len b hb k hk] at hv
  have hd := pdone h hb hv
  have e : (solveS F b k).getD v false = if k ≤ (F.blk b).code.length then liveB F (b, k) v else afterB F (b, (F.blk b).code.length) v := by
    simp [solveS, List.getD_eq_getElem?_getD, hv]
  rw [e]
  by_cases hkl : k ≤ (F.blk b).code.length
  · rw [if_pos hkl]
    exact hd.1 k hkl
  · obtain rfl : k = (F.blk b).code.length + 1 := by omega
    rw [if_neg hkl]
    exact hd.2
theorem SM.full {W0 : World} {fc : Array Value} {nl nb : Nat} {L : Nat → Nat} {bF bO R P : Nat} {rb : Nat → Nat} {lv : Nat → Value} {ls : Nat → List Int} {sv : Nat → Nat → Value} {tab : Nat → Nat → List Bool} {m : Nat} {c : Nat → Nat} {w : World}
    (h : SM W0 fc nl nb L bF bO R P rb lv ls sv tab m c w) (hc : ∀ b, b < m → c b = L b) : SM W0 fc nl nb L bF bO R P rb lv ls sv tab m L w :=
  ⟨h.bl, h.f, h.o, h.r, h.p, fun b hb => by rw [← hc b hb]; exact h.row b hb |> fun x => ⟨x.1, by rw [hc b hb] at x; rw [hc b hb]; exact x.2⟩, h.inj, fun b hb k hk => h.set b hb k (by rw [hc b hb]; exact hk), h.fam, h.at_⟩
theorem mem_queueL {nb : Nat} {x : Int} : x ∈ queueL nb nb ↔ 0 ≤ x ∧ x < nb := by
  unfold queueL
  rw [List.mem_map]
  constructor
  · rintro ⟨i, hi, rfl⟩
    have := List.mem_range.1 hi
    omega
  · rintro ⟨h1, h2⟩
    exact ⟨(nb - 1 - x).toNat, List.mem_range.2 (by omega), by omega⟩
set_option maxHeartbeats 4000000 in
set_option maxRecDepth 1000000 in
theorem solve_any (v : Value) (F : Fn) (w : World) (hF : RFn w.cell? v F) (hs : Szd F) :
    Calls Tryz.prog 34 #[v] w fun e w' => (∃ vp, e = .returned vp ∧ RSets3 w'.cell? vp (solveL F)) ∧ Below w.heap.size w w' := by
  obtain ⟨mo, pa, ar, vb, vr, vl', vk, vt, Ab, At, nb, cb, nt, ct, rfl, rfl, rfl, m1, m2, ⟨Ar, kr, rfl, hr1, hr2, hr3⟩, ⟨Al, kl, rfl, h1, h2, hL⟩, ⟨Ak, kk, rfl, hk1, hk2, hk3⟩⟩ := id hF
  have hbl := hs.blocks
  have hll := hs.locals
  have HF := Lib.hid (fun c (hc : Le w.cell? c) => hF.mono hc)
  have HK3 := Lib.hid hk3
  have HS := Lib.hid hs
  clear hF hr3 hL hk3 hs
  have e70 := mk70 F.blocks.length (by omega)
  have e84 := mk84 F.blocks.length (by omega)
  obtain ⟨FC, hFC⟩ : ∃ FC : Array Value, FC = #[.string F.name, .int .i64 mo, .int .i64 pa, .slice Ab nb cb, .int .i64 ar, .int .i64 F.result.kind, .int .i64 F.result.id, .slice Ar F.result.args.length kr, .slice Al F.locals.length kl, .slice Ak F.blocks.length kk, .slice At nt ct] := ⟨_, rfl⟩
  have HFC := Lib.hid hFC
  clear hFC
  refine (callsIn_wide (n := 100)).1 (callsIn_of_wp_marks Tryz.func34 rfl trivial ?_ rfl)
  refine wpIn_mono (Q := endQ (bodyPostM Fence.wide 100 Tryz.prog Tryz.f34 (fun e w' => (∃ vp, e = .returned vp ∧ RSets3 w'.cell? vp (solveL F)) ∧ Below w.heap.size w w'))) ?_ endQ_mono
  refine wpIn_wide.2 ?_
  simp only [Tryz.ntmps34, List.size_toArray, List.length_cons, List.length_nil, Nat.reduceAdd, Nat.reduceSub, Array.replicate_succ, Array.replicate_zero, List.push_toArray, List.append_toArray, List.nil_append, List.cons_append]
  go_wp2_with fail
  obtain ⟨bF, hbF⟩ : ∃ bF, bF = w.heap.size := ⟨_, rfl⟩
  obtain ⟨bR, hbR⟩ : ∃ bR, bR = w.heap.size + 1 := ⟨_, rfl⟩
  obtain ⟨bO, hbO⟩ : ∃ bO, bO = w.heap.size + 1 + 1 := ⟨_, rfl⟩
  obtain ⟨bP, hbP⟩ : ∃ bP, bP = w.heap.size + 1 + 1 + 1 := ⟨_, rfl⟩
  obtain ⟨L, hL⟩ : ∃ L : Nat → Nat, L = fun b => (F.blk b).code.length + 2 := ⟨_, rfl⟩
  rw [← HFC.out, ← hbP, ← hbO, ← hbR, ← hbF]
  generalize hW1 : World.alloc _ _ = W1
  have hFC9 : FC[9]? = some (.slice Ak F.blocks.length kk) := by rw [HFC.out]; rfl
  have hFC8 : FC[8]? = some (.slice Al F.locals.length kl) := by rw [HFC.out]; rfl
  have hSM : SM w FC F.locals.length F.blocks.length L bF bO bR bP (fun _ => 0) (fun _ => nilS) (fun _ => []) (fun _ _ => nilS) (fun _ _ => []) 0 (fun _ => 0) W1 := by
    rw [← hW1]
    refine ⟨?_, ?_, ?_, ?_, ?_, fun b hb => by omega, fun a b ha => by omega, fun b hb => by omega, ⟨fun b _ => QRow.nil _ _, fun a b _ _ _ g hg => by simp [nilS, Value.ownBlock] at hg⟩, by omega⟩
    · repeat (first | exact Below.refl _ _ | apply Bl.alloc)
    · rw [hbF]
      repeat (first | (refine Bx.at0 _ _ _ ?_; (simp; done)) | apply Bx.alloc)
    · rw [hbO, hbR]
      repeat (first | (refine Bx.at0 _ _ _ ?_; (simp; done)) | apply Bx.alloc)
    · rw [hbR, tabA_congr (g := fun _ => nilS) (fun j _ => by simp)]
      repeat (first | (refine Bx.at0 _ _ _ ?_; (simp; done)) | apply Bx.alloc)
    · rw [hbP]
      repeat (first | (refine Bx.at0 _ _ _ ?_; (simp; done)) | apply Bx.alloc)
  have HSM := Lib.hid hSM
  have HL := Lib.hid hL
  clear hSM hW1 e70 e84 hbF hbR hbO hbP hL
  go_loopw [5, 29] (fun q i wr => ∃ (k : Nat) (rb : Nat → Nat) (lv : Nat → Value) (sv : Nat → Nat → Value) (c : Nat → Nat), i = .int .i64 k ∧ k ≤ F.blocks.length ∧ q = lv F.blocks.length ∧ (∀ b, b < k → c b = L b) ∧
    Hid (SM w FC F.locals.length F.blocks.length L bF bO bR bP rb lv (lsAt F k) sv (fun _ _ => List.replicate F.locals.length false) k c wr)) (fun _ i _ => F.blocks.length - (intOf i).toNat)
  case atStart => exact ⟨0, _, _, _, _, rfl, Nat.zero_le _, rfl, fun b hb => by omega, lsAt_zero HSM.out⟩
  case round =>
    obtain ⟨k, rb, lv, sv, c, rfl, hk, rfl, hc, HR⟩ := hrel
    by_cases hlt : k < F.blocks.length
    · have hki : (k : Int) < (F.blocks.length : Int) := by omega
      obtain ⟨adb, vc, vg, rfl, c0, c1, c2, c3, ⟨Ac, kc, rfl, hc1, hc2, hc3⟩, ⟨Ag, kg, rfl, hg1, hg2, hg3⟩⟩ := HK3.out.blk_at k hlt
      have hB : F.blk k = F.blocks.getD k default := rfl
      obtain ⟨B, hB2⟩ : ∃ B, B = F.blk k := ⟨_, rfl⟩
      rw [← hB] at c0 c1 c2 c3 hc1 hg1 hg3
      rw [← hB2] at c0 c1 c2 c3 hc1 hg1 hg3
      have HBB := Lib.hid hB2
      have le := Bl.le HR.out.bl
      have d0 := le _ _ c0
      have d1 := le _ _ c1
      have d2 := le _ _ c2
      have d3 := le _ _ c3
      have HG := Lib.hid hg3
      have hbc : B.code.length ≤ 21 := by rw [hB2]; exact HS.out.code _ (getD_mem hlt)
      have hbt : B.fin.targets.length ≤ 20 := by rw [hB2]; exact HS.out.targets _ (getD_mem hlt)
      clear c0 c1 c2 c3 hg3 hB hB2 hc3 le
      have cF9 := (HR.out.f.cell 9).trans hFC9
      have cF8 := (HR.out.f.cell 8).trans hFC8
      go_upto_region 7 with fail
      obtain ⟨b7, hb7⟩ : ∃ b7, b7 = wr.heap.size := ⟨_, rfl⟩
      rw [← hb7]
      generalize hW7 : World.alloc wr _ = W7
      have H7 := HR.out.alloc (.cells #[.slice Ac B.code.length kc, .int .i64 B.fin.kind, .int .i64 B.fin.a, .slice Ag B.fin.targets.length kg] 66)
      have B7 : Bx W7 b7 66 #[.slice Ac B.code.length kc, .int .i64 B.fin.kind, .int .i64 B.fin.a, .slice Ag B.fin.targets.length kg] := by rw [← hW7]; exact Bx.at0 _ _ _ hb7
      rw [hW7] at H7
      replace H7 := Lib.hid H7
      replace B7 := Lib.hid B7
      have hLk : Hid (L k = B.code.length + 2) := by show L k = _; rw [HL.out, HBB.out]
      clear hW7 HR hb7 d0 d1 d2 d3 cF9 cF8
      have hwr : IntKind.i64.wrap ((B.code.length : Int) + 2) = (B.code.length : Int) + 2 := IntWalk.i64_in _ (by omega)
      have e82 := mk82 (B.code.length + 2) (by omega)
      simp only [Int.natCast_add, Int.cast_ofNat_Int] at e82
      refine region_anyS (S := fun w' => w'.cell? ⟨bO, 0, none⟩ = some (.slice (some ⟨bR, 0, none⟩) F.blocks.length F.blocks.length) ∧ w'.cell? ⟨b7, 0, none⟩ = some (.slice Ac B.code.length kc)) ?_
      have hSd : (fun w' : World => w'.cell? ⟨bO, 0, none⟩ = some (.slice (some ⟨bR, 0, none⟩) F.blocks.length F.blocks.length) ∧ w'.cell? ⟨b7, 0, none⟩ = some (.slice Ac B.code.length kc)) W7.drew := ⟨H7.out.o.drew.cell 0, B7.out.drew.cell 0⟩
      (refine AnyS.take (i := 0) (v := ?_) (by kernel_rfl) rfl (by kernel_rfl) (by kernel_rfl) (by kernel_rfl) (fun _ _ _ h => h) (by assumption) ⟨⟨by rfl, ?_⟩, fun _ => rfl⟩ ?_; rotate_left; (rintro w' ⟨hs1, hs2⟩; go_simp; rfl))
      (refine AnyS.take (i := 1) (v := ?_) (by kernel_rfl) rfl (by kernel_rfl) (by kernel_rfl) (by kernel_rfl) (fun _ _ _ h => h) (by assumption) ⟨⟨by rfl, ?_⟩, fun _ => rfl⟩ ?_; rotate_left; (rintro w' ⟨hs1, hs2⟩; go_simp; rfl))
      (refine AnyS.take (i := 2) (v := ?_) (by kernel_rfl) rfl (by kernel_rfl) (by kernel_rfl) (by kernel_rfl) (fun _ _ _ h => h) (by assumption) ⟨⟨by rfl, ?_⟩, fun _ => rfl⟩ ?_; rotate_left; (rintro w' ⟨hs1, hs2⟩; go_simp; rfl))
      (refine AnyS.take (i := 3) (v := ?_) (by kernel_rfl) rfl (by kernel_rfl) (by kernel_rfl) (by kernel_rfl) (fun _ _ _ h => h) (by assumption) ⟨⟨by rfl, ?_⟩, fun _ => rfl⟩ ?_; rotate_left; (rintro w' ⟨hs1, hs2⟩; go_simp; rfl))
      (refine AnyS.take (i := 4) (v := ?_) (by kernel_rfl) rfl (by kernel_rfl) (by kernel_rfl) (by kernel_rfl) (fun _ _ _ h => h) (by assumption) ⟨⟨by rfl, ?_⟩, fun _ => rfl⟩ ?_; rotate_left; (rintro w' ⟨hs1, hs2⟩; go_simp; rfl))
      (refine AnyS.take (i := 5) (v := ?_) (by kernel_rfl) rfl (by kernel_rfl) (by kernel_rfl) (by kernel_rfl) (fun _ _ _ h => h) (by assumption) ⟨⟨by rfl, ?_⟩, fun _ => rfl⟩ ?_; rotate_left; (rintro w' ⟨hs1, hs2⟩; go_simp; rfl))
      refine AnyS.one (i := 6) (by kernel_rfl) ?_
      refine wpOpIn_step rfl (fun K hK => ?_)
      go_simp
      have hRsz := H7.out.r.lt
      obtain ⟨b8, hb8⟩ : ∃ b8, b8 = W7.heap.size := ⟨_, rfl⟩
      obtain ⟨W8, hW8⟩ : ∃ W8, W8 = (W7.alloc (Obj.cells (tabA (B.code.length + 2) fun x => nilS) 83)).drew := ⟨_, rfl⟩
      rw [← hb8, ← hW8]
      have H8 : Hid (SM w FC F.locals.length F.blocks.length L bF bO bR bP (upd rb k b8) lv (lsAt F k) sv (fun _ _ => List.replicate F.locals.length false) (k + 1) (upd c k 0) (W8.setCell ⟨bR, k, none⟩ (.slice (some ⟨b8, 0, none⟩) (B.code.length + 2) (B.code.length + 2)))) := by
        have := H7.out.newrow hlt
        rw [← hb8, hLk.out] at this
        rw [hW8]
        exact this.drew
      have hck8 : CK [] W7 W8 := by rw [hW8]; exact CK.of_below (Bl.drew (Bl.alloc (Below.refl _ _) _))
      have hO8 := hck8.bx H7.out.o (by simp)
      have hB8 := hck8.bx B7.out (by simp)
      have hR8 := hck8.bx H7.out.r (by simp)
      clear hW8 hb8 hck8 H7 hRsz
      have cR8 := (hR8.cell k).trans (tabA_get hlt)
      have fR8 := hR8.frozen k
      have hSd8 : (fun w' : World => w'.cell? ⟨bO, 0, none⟩ = some (.slice (some ⟨bR, 0, none⟩) F.blocks.length F.blocks.length) ∧ w'.cell? ⟨b7, 0, none⟩ = some (.slice Ac B.code.length kc)) W8 := ⟨hO8.cell 0, hB8.cell 0⟩
      refine hK _ _ ⟨hSd8, ?_⟩
      clear hK K
      refine AnyS.one (i := 7) (by kernel_rfl) ?_
      refine wpOpIn_step rfl (fun K hK => ?_)
      go_simp
      refine hK _ _ ⟨hSd8, ?_⟩
      clear hK K
      refine AnyS.one (i := 8) (by kernel_rfl) ?_
      refine wpOpIn_step rfl (fun K hK => ?_)
      go_simp
      refine hK _ _ ⟨⟨(hO8.far (hO8.ne hR8 (by simp)) _).cell 0, (hB8.far (hB8.ne hR8 (by simp)) _).cell 0⟩, ?_⟩
      clear hK K
      refine AnyS.done (by kernel_rfl) ?_ _
      obtain ⟨W9, hW9⟩ : ∃ W9, W9 = W8.setCell ⟨bR, k, none⟩ (.slice (some ⟨b8, 0, none⟩) (B.code.length + 2) (B.code.length + 2)) := ⟨_, rfl⟩
      rw [← hW9] at H8 ⊢
      have B9 : Bx W9 b7 66 #[.slice Ac B.code.length kc, .int .i64 B.fin.kind, .int .i64 B.fin.a, .slice Ag B.fin.targets.length kg] := by rw [hW9]; exact hB8.far (hB8.ne hR8 (by simp)) _
      have HB9 := Lib.hid B9
      clear hW9 hO8 hB8 hR8 cR8 fR8 hSd8 hSd B7 B9 hwr e82
      have cO := H8.out.cO
      have cR := H8.out.cR (b := k) (Nat.lt_succ_self _) hlt
      rw [upd_same, hLk.out] at cR
      go_wp2_with fail
      clear cO cR
      go_loopw [47] (fun i w' => ∃ (j : Nat) (sv : Nat → Nat → Value) (c : Nat → Nat), i = .int .i64 j ∧ j ≤ B.code.length + 2 ∧ (∀ b, b < k → c b = L b) ∧ c k = j ∧
        Hid (SM w FC F.locals.length F.blocks.length L bF bO bR bP (upd rb k b8) lv (lsAt F k) sv (fun _ _ => List.replicate F.locals.length false) (k + 1) c w') ∧
        Hid (Bx w' b7 66 #[.slice Ac B.code.length kc, .int .i64 B.fin.kind, .int .i64 B.fin.a, .slice Ag B.fin.targets.length kg])) (fun i _ => B.code.length + 2 - (intOf i).toNat)
      case atStart => exact ⟨0, _, _, rfl, Nat.zero_le _, (fun b hb => by rw [upd_ne _ _ (by omega)]; exact hc b hb), upd_same _ _ _, H8, HB9⟩
      case round =>
        clear H8 HB9
        obtain ⟨j, sv', c', rfl, hj, hc', hcj, HJ, HBJ⟩ := hrel
        by_cases hjl : j < B.code.length + 2
        · have hji : (j : Int) < (B.code.length : Int) + 2 := by omega
          have cO := HJ.out.cO
          have cR := HJ.out.cR (b := k) (Nat.lt_succ_self _) hlt
          rw [upd_same, hLk.out] at cR
          have cF8 := (HJ.out.f.cell 8).trans hFC8
          have e83 := mk83 F.locals.length (by omega)
          go_upto_region 11 with fail
          refine region_anyS (S := fun w'' => w''.cell? ⟨bO, 0, none⟩ = some (.slice (some ⟨bR, 0, none⟩) F.blocks.length F.blocks.length) ∧ w''.cell? ⟨bR, k, none⟩ = some (.slice (some ⟨b8, 0, none⟩) (B.code.length + 2) (B.code.length + 2)) ∧ w''.cell? ⟨bF, 8, none⟩ = some (.slice Al F.locals.length kl)) ?_
          have hSd : (fun w'' : World => w''.cell? ⟨bO, 0, none⟩ = some (.slice (some ⟨bR, 0, none⟩) F.blocks.length F.blocks.length) ∧ w''.cell? ⟨bR, k, none⟩ = some (.slice (some ⟨b8, 0, none⟩) (B.code.length + 2) (B.code.length + 2)) ∧ w''.cell? ⟨bF, 8, none⟩ = some (.slice Al F.locals.length kl)) wr.drew := ⟨cO, cR, cF8⟩
          (refine AnyS.take (i := 0) (v := ?_) (by kernel_rfl) rfl (by kernel_rfl) (by kernel_rfl) (by kernel_rfl) (fun _ _ _ h => h) (by assumption) ⟨⟨by rfl, ?_⟩, fun _ => rfl⟩ ?_; rotate_left; (rintro w' ⟨hs1, hs2, hs3⟩; go_simp; rfl))
          (refine AnyS.take (i := 1) (v := ?_) (by kernel_rfl) rfl (by kernel_rfl) (by kernel_rfl) (by kernel_rfl) (fun _ _ _ h => h) (by assumption) ⟨⟨by rfl, ?_⟩, fun _ => rfl⟩ ?_; rotate_left; (rintro w' ⟨hs1, hs2, hs3⟩; go_simp; rfl))
          (refine AnyS.take (i := 2) (v := ?_) (by kernel_rfl) rfl (by kernel_rfl) (by kernel_rfl) (by kernel_rfl) (fun _ _ _ h => h) (by assumption) ⟨⟨by rfl, ?_⟩, fun _ => rfl⟩ ?_; rotate_left; (rintro w' ⟨hs1, hs2, hs3⟩; go_simp; rfl))
          (refine AnyS.take (i := 3) (v := ?_) (by kernel_rfl) rfl (by kernel_rfl) (by kernel_rfl) (by kernel_rfl) (fun _ _ _ h => h) (by assumption) ⟨⟨by rfl, ?_⟩, fun _ => rfl⟩ ?_; rotate_left; (rintro w' ⟨hs1, hs2, hs3⟩; go_simp; rfl))
          (refine AnyS.take (i := 4) (v := ?_) (by kernel_rfl) rfl (by kernel_rfl) (by kernel_rfl) (by kernel_rfl) (fun _ _ _ h => h) (by assumption) ⟨⟨by rfl, ?_⟩, fun _ => rfl⟩ ?_; rotate_left; (rintro w' ⟨hs1, hs2, hs3⟩; go_simp; rfl))
          (refine AnyS.take (i := 5) (v := ?_) (by kernel_rfl) rfl (by kernel_rfl) (by kernel_rfl) (by kernel_rfl) (fun _ _ _ h => h) (by assumption) ⟨⟨by rfl, ?_⟩, fun _ => rfl⟩ ?_; rotate_left; (rintro w' ⟨hs1, hs2, hs3⟩; go_simp; rfl))
          (refine AnyS.take (i := 6) (v := ?_) (by kernel_rfl) rfl (by kernel_rfl) (by kernel_rfl) (by kernel_rfl) (fun _ _ _ h => h) (by assumption) ⟨⟨by rfl, ?_⟩, fun _ => rfl⟩ ?_; rotate_left; (rintro w' ⟨hs1, hs2, hs3⟩; go_simp; rfl))
          (refine AnyS.take (i := 7) (v := ?_) (by kernel_rfl) rfl (by kernel_rfl) (by kernel_rfl) (by kernel_rfl) (fun _ _ _ h => h) (by assumption) ⟨⟨by rfl, ?_⟩, fun _ => rfl⟩ ?_; rotate_left; (rintro w' ⟨hs1, hs2, hs3⟩; go_simp; rfl))
          refine AnyS.one (i := 8) (by kernel_rfl) ?_
          refine wpOpIn_step rfl (fun K hK => ?_)
          go_simp
          obtain ⟨bs, hbs⟩ : ∃ bs, bs = wr.heap.size := ⟨_, rfl⟩
          obtain ⟨Wa, hWa⟩ : ∃ Wa, Wa = (wr.alloc (Obj.cells (tabA F.locals.length fun x => .bool false) 4)).drew := ⟨_, rfl⟩
          rw [← hbs, ← hWa]
          have HA : Hid (SM w FC F.locals.length F.blocks.length L bF bO bR bP (upd rb k b8) lv (lsAt F k) sv' (fun _ _ => List.replicate F.locals.length false) (k + 1) c' Wa) := by
            rw [hWa]
            exact (HJ.out.alloc _).drew
          have HBA : Hid (Bx Wa b7 66 #[.slice Ac B.code.length kc, .int .i64 B.fin.kind, .int .i64 B.fin.a, .slice Ag B.fin.targets.length kg]) := by
            rw [hWa]
            exact (HBJ.out.alloc _).drew
          have HSA : Hid (OSet w.heap.size Wa (.slice (some ⟨bs, 0, none⟩) F.locals.length F.locals.length) (List.replicate F.locals.length false)) := by
            rw [hWa, hbs]
            exact (OSet.new w.heap.size wr F.locals.length HJ.out.bl.size (by omega)).below (Bl.drew (Below.refl _ _))
          clear hWa hbs hSd cO cR cF8 HJ HBJ
          have cO := HA.out.cO
          have cR := HA.out.cR (b := k) (Nat.lt_succ_self _) hlt
          have hrow := HA.out.row k (Nat.lt_succ_self _)
          rw [upd_same] at hrow cR
          rw [hLk.out] at hrow cR
          have cF8 := (HA.out.f.cell 8).trans hFC8
          have cW := (hrow.2.cell j).trans (tabA_get hjl)
          have fW := hrow.2.frozen j
          have hne : bO ≠ b8 ∧ bR ≠ b8 ∧ bF ≠ b8 ∧ b7 ≠ b8 := ⟨HA.out.o.ne hrow.2 (by simp), HA.out.r.ne hrow.2 (by simp), HA.out.f.ne hrow.2 (by simp), HBA.out.ne hrow.2 (by simp)⟩
          have hSa : (fun w'' : World => w''.cell? ⟨bO, 0, none⟩ = some (.slice (some ⟨bR, 0, none⟩) F.blocks.length F.blocks.length) ∧ w''.cell? ⟨bR, k, none⟩ = some (.slice (some ⟨b8, 0, none⟩) (B.code.length + 2) (B.code.length + 2)) ∧ w''.cell? ⟨bF, 8, none⟩ = some (.slice Al F.locals.length kl)) Wa := ⟨cO, cR, cF8⟩
          have hne := Lib.hid hne
          clear hrow
          refine hK _ _ ⟨hSa, ?_⟩
          clear hK K
          refine AnyS.one (i := 9) (by kernel_rfl) ?_
          refine wpOpIn_step rfl (fun K hK => ?_)
          go_simp
          refine hK _ _ ⟨hSa, ?_⟩
          clear hK K
          refine AnyS.one (i := 10) (by kernel_rfl) ?_
          refine wpOpIn_step rfl (fun K hK => ?_)
          go_simp
          refine hK _ _ ⟨⟨(HA.out.o.far hne.out.1 _).cell 0, ?_, ?_⟩, ?_⟩
          · exact (World.cell?_setCell_other _ _ _ _ (fun e => hne.out.2.1 (by rw [Addr.mk.injEq] at e; exact e.1.symm))).trans cR
          · exact (World.cell?_setCell_other _ _ _ _ (fun e => hne.out.2.2.1 (by rw [Addr.mk.injEq] at e; exact e.1.symm))).trans cF8
          clear hK K
          refine AnyS.done (by kernel_rfl) ?_ _
          clear hSa cO cR cF8 cW fW
          go_wp2_with fail
          go_roundw
          case rel =>
            refine ⟨j + 1, upd2 sv' k j (.slice (some ⟨bs, 0, none⟩) F.locals.length F.locals.length), upd c' k (max (c' k) (j + 1)), by go_num, by omega, ?_, ?_, ?_, ?_⟩
            · intro b hb
              rw [upd_ne _ _ (by omega)]
              exact hc' b hb
            · rw [upd_same]
              omega
            · have := HA.out.put (i := k) (k := j) (Nat.lt_succ_self _) HSA.out (by simp) (by omega) (by rw [hLk.out]; exact hjl)
              rw [upd_same, upd2_const] at this
              exact this
            · exact HBA.out.far hne.out.2.2.2 _
          case measure => simp [intOf]; omega
        · obtain rfl : j = B.code.length + 2 := by omega
          simp only [Int.natCast_add, Int.cast_ofNat_Int]
          have hcL : Hid (∀ b, b < k + 1 → c' b = L b) := fun b hb => by
            by_cases e : b = k
            · rw [e, hcj, hLk.out]
            · exact hc' b (by omega)
          clear hj hjl hcj hc'
          have c7 := HBJ.out.cell 3
          have f7 := HBJ.out.lt
          have hlsT := lsT_zero (B := B) HJ.out
          have HLT := Lib.hid hlsT
          clear HJ hlsT
          go_wp2_with fail
          clear c7 f7
          go_loopw [65] (fun i w' => ∃ (j : Nat) (lv' : Nat → Value), i = .int .i64 j ∧ j ≤ B.fin.targets.length ∧ lv' F.blocks.length = lv F.blocks.length ∧
            Hid (SM w FC F.locals.length F.blocks.length L bF bO bR bP (upd rb k b8) lv' (lsT F B k j) sv' (fun _ _ => List.replicate F.locals.length false) (k + 1) c' w') ∧
            Hid (Bx w' b7 66 #[.slice Ac B.code.length kc, .int .i64 B.fin.kind, .int .i64 B.fin.a, .slice Ag B.fin.targets.length kg])) (fun i _ => B.fin.targets.length - (intOf i).toNat)
          case atStart => exact ⟨0, _, rfl, Nat.zero_le _, rfl, HLT, HBJ⟩
          case round =>
            clear HLT HBJ
            obtain ⟨j, lv', rfl, hj, hlv, HT, HBT⟩ := hrel
            have HLV := Lib.hid hlv
            clear hlv
            by_cases hjl : j < B.fin.targets.length
            · have hji : (j : Int) < (B.fin.targets.length : Int) := by omega
              obtain ⟨adg, rfl, ca⟩ := (HG.out.mono monoInt (Bl.le HT.out.bl)).int_at j hjl
              have cF9 := (HT.out.f.cell 9).trans hFC9
              obtain ⟨t, ht⟩ : ∃ t, t = B.fin.targets.getD j 0 := ⟨_, rfl⟩
              rw [← ht] at ca
              have HTt := Lib.hid ht
              clear ht
              by_cases ht0 : 0 ≤ t
              · obtain ⟨a, rfl⟩ := Int.eq_ofNat_of_zero_le ht0
                by_cases hta : a < F.blocks.length
                · have htai : (a : Int) < (F.blocks.length : Int) := by omega
                  have cP := HT.out.cP hta
                  have HX := Lib.hid (lsT_in F B k j a hjl HTt.out.symm hta)
                  have hxl : (lsT F B k j a).length + 1 ≤ 1000000000 := by
                    have := lsT_len F B k j a 20 (Fn.targets_le HS.out) hta
                    omega
                  have HQ := Lib.hid (HT.out.fam.1 a (by omega))
                  have hsz : w.heap.size ≤ (wr.alloc (.cells #[.int .i64 (k : Int)] 3)).heap.size := by
                    have := HT.out.bl.size
                    simp
                    omega
                  go_wp2_with (at_builtin; refine wpList_append_q w.heap.size _ rfl (.tmp 83) (.tmp 85) rfl rfl rfl (HQ.out.grown (World.grownBy_alloc _ _ none) (fun g _ => by simp)) (rints_new1 wr (k : Int)) hsz hxl ?_; intro v' w1 hq hgr ho; obtain ⟨Av, kv, rfl⟩ := hq.shape; have hgr2 : World.grownBy _ w1 (lv' a).ownBlock := hgr; have ho2 : _ = (lv' a).ownBlock ∨ _ := ho; have hpp := (HT.out.alloc (.cells #[.int .i64 (k : Int)] 3)).pushP hta hgr2; have cp1 := hpp.1; have fp1 := hpp.2; have HQ1 := Lib.hid hq; have HG1 := Lib.hid hgr2; have HO1 := Lib.hid ho2; clear hq hgr ho hpp hgr2 ho2)
                  have hP1 := (HT.out.alloc (.cells #[.int .i64 (k : Int)] 3)).p.grown HG1.out (fun e => (HT.out.fam.1 a (by omega)).apart HT.out.p (by simp) e.symm)
                  have h71 := (HBT.out.alloc (.cells #[.int .i64 (k : Int)] 3)).grown HG1.out (fun e => (HT.out.fam.1 a (by omega)).apart HBT.out (by simp) e.symm)
                  go_roundw
                  case rel =>
                    refine ⟨j + 1, upd lv' a (.slice Av ((lsT F B k j a).length + 1) kv), by go_num, by omega, ?_, ?_, h71.far (h71.ne hP1 (by simp)) _⟩
                    · rw [upd_ne _ _ (by omega)]
                      exact HLV.out
                    · have := (HT.out.alloc (.cells #[.int .i64 (k : Int)] 3)).push hta HQ1.out HG1.out HO1.out
                      rw [HX.out] at this
                      simp only [List.length_append, List.length_cons, List.length_nil, Nat.zero_add] at this
                      exact this
                  case measure => simp [intOf]; omega
                · have htai : (F.blocks.length : Int) ≤ (a : Int) := by omega
                  have HX := Lib.hid (lsT_out F B k j hjl (by rw [← HTt.out]; omega))
                  go_wp2_with fail
                  go_roundw
                  case rel => exact ⟨j + 1, lv', by go_num, by omega, HLV.out, (by rw [HX.out]; exact HT), HBT⟩
                  case measure => simp [intOf]; omega
              · have htn : t < 0 := by omega
                have HX := Lib.hid (lsT_out F B k j hjl (by rw [← HTt.out]; omega))
                go_wp2_with fail
                go_roundw
                case rel => exact ⟨j + 1, lv', by go_num, by omega, HLV.out, (by rw [HX.out]; exact HT), HBT⟩
                case measure => simp [intOf]; omega
            · obtain rfl : j = B.fin.targets.length := by omega
              have HX : Hid (lsT F B k B.fin.targets.length = lsT2 F k) := lsT_all F k B HBB.out
              rw [HX.out] at HT
              clear HX HBT hj hjl
              have cF9 := (HT.out.f.cell 9).trans hFC9
              have HQ := Lib.hid (HT.out.fam.1 F.blocks.length (Nat.le_refl _))
              have HX2 := Lib.hid (lsT2_next F k)
              have hxl : (lsT2 F k F.blocks.length).length + 1 ≤ 1000000000 := by
                unfold lsT2
                rw [lsG_at]
                simp [queueL]
                omega
              have hsz : w.heap.size ≤ (wr.alloc (.cells #[.int .i64 ((F.blocks.length : Int) - 1 - k)] 3)).heap.size := by
                have := HT.out.bl.size
                simp
                omega
              have HQ' : Hid (QRow w.heap.size wr (lv F.blocks.length) (lsT2 F k F.blocks.length)) := by rw [← HLV.out]; exact HQ
              clear HQ
              go_wp2_with (at_builtin; refine wpList_append_q w.heap.size _ rfl (.tmp 89) (.tmp 96) rfl rfl rfl (HQ'.out.grown (World.grownBy_alloc _ _ none) (fun g _ => by simp)) (rints_new1 wr ((F.blocks.length : Int) - 1 - k)) hsz hxl ?_; intro v' w1 hq hgr ho; have hgr2 : World.grownBy _ w1 (lv F.blocks.length).ownBlock := hgr; have ho2 : _ = (lv F.blocks.length).ownBlock ∨ _ := ho; have HQ1 := Lib.hid hq; have HG1 := Lib.hid hgr2; have HO1 := Lib.hid ho2; clear hq hgr ho hgr2 ho2)
              go_roundw
              case rel =>
                refine ⟨k + 1, upd rb k b8, upd lv' F.blocks.length v', sv', c', by go_num, by omega, (upd_same _ _ _).symm, hcL.out, ?_⟩
                · have := (HT.out.alloc (.cells #[.int .i64 ((F.blocks.length : Int) - 1 - k)] 3)).queue HQ1.out (by rw [HLV.out]; exact HG1.out) (by rw [HLV.out]; exact HO1.out)
                  rw [HX2.out] at this
                  exact this
              case measure => simp [intOf]; omega
    · obtain rfl : k = F.blocks.length := by omega
      have HM := lsAt_full HR
      have HR2 := Lib.hid (HM.out.full hc)
      clear HR HM
      go_wp2_with fail
      have hPI : PInv F 800 (fun _ _ => List.replicate F.locals.length false) (queueL F.blocks.length F.blocks.length) := pinit F 800 _ _ (fun _ _ => rfl) (fun x hx => mem_queueL.1 hx) (fun b hb => mem_queueL.2 ⟨by omega, by omega⟩) (by simp [queueL])
      have HFC2 : RFn w.cell? (.agg FC) F := by rw [HFC.out]; exact HF.out _ (Le.refl _)
      refine wp_mono (Q := RQ F w FC (fun b => (F.blk b).code.length + 2) bF bO bR bP rb 800) (wp_loop_n (WI F w FC (fun b => (F.blk b).code.length + 2) bF bO bR bP rb 800) (n := _) ⟨_, WIq.intro rfl rfl rfl rfl rfl (Marks.nil _ _) (by rw [← HL.out]; exact HR2.out) hPI⟩ (fun n a w1 hI => solve_round F w FC HFC2 HS.out bF bO bR bP rb n a w1 hI)) ?_
      intro e a w1 hq
      have he : e = .exit 6 ∧ ∃ n, WIq F w FC (fun b => (F.blk b).code.length + 2) bF bO bR bP rb 800 [] n a w1 := by
        unfold RQ at hq
        split at hq
        · exact ⟨rfl, hq⟩
        · exact hq.elim
      obtain ⟨rfl, n, u, ds, lv', sv', tab', rfl, hM, hSM, hP, rfl⟩ := he
      dsimp only
      have cO := hSM.cO
      have HM := Lib.hid hM
      have HSM := Lib.hid hSM
      have HP := Lib.hid hP
      clear hM hSM hP hq HR2 hPI
      go_wp2_with fail
      obtain ⟨Ds, rfl, hnd, hD⟩ := HM.out
      refine leaves_marks (base := w.heap.size) (T := fun w' => SM w FC F.locals.length F.blocks.length (fun b => (F.blk b).code.length + 2) bF bO bR bP rb lv' (lsG F.blocks.length (predL F F.blocks.length) []) sv' tab' F.blocks.length (fun b => (F.blk b).code.length + 2) w') ?_ ?_ Ds w1 hnd hD HSM.out
      · intro w2 D o hT hb hD ho
        refine hT.ck (CK.putObj w2 D o _ hD ho) (hT.bl.trans ⟨rfl, rfl, rfl, by simp [World.putObj], fun k hk => World.putObj_heap_other (by omega)⟩)
      · intro w2 hT
        exact ⟨.slice (some ⟨bR, 0, none⟩) F.blocks.length F.blocks.length, results_tmp (t := 2) rfl _ _ _, ⟨_, rfl, hT.result rfl HS.out (fun b hb k hk => HP.out.table hb hk)⟩, hT.bl⟩
end Go.Proofs.YtdkjkgokllmkmaaGreatDoor.Lv
