/- Walks: solve: the round's walk back through a block. -/
import Derived.Test.YtdkjkgokllmkmaaGreatDoorLwd
import Derived.Test.YtdkjkgokllmkmaaGreatDoorLvx
namespace Go.Proofs.YtdkjkgokllmkmaaGreatDoor.Lv
open Go.RowKit
attribute [local go_sem] Oper.semAt_some
set_option linter.unusedVariables false
set_option linter.unusedSimpArgs false
def findRF : Code → Option Code
  | .rangeFunc g ps a b => some (.rangeFunc g ps a b)
  | .seq a b => match findRF a with
    | some c => some c
    | none => findRF b
  | .loop c => findRF c
  | .block _ c => findRF c
  | .scope c => findRF c
  | .cond _ a b => match findRF a with
    | some c => some c
    | none => findRF b
  | _ => none
noncomputable def rfCode : Code := (Tryz.f34.body.bind findRF).getD .skip
theorem le_look {W0 w : World} {D : List Nat} (hB : Below W0.heap.size W0 w) (hD : ∀ k, k ∈ D → W0.heap.size ≤ k) : Le W0.cell? (look D w) := fun a v e => by
  obtain ⟨o, ho, _⟩ := cell_block e
  have hlt := (Array.getElem?_eq_some_iff.1 ho).1
  exact cell_look (fun hm => by have := hD _ hm; omega) (Bl.le hB a v e)
theorem SM.tab_congr {W0 : World} {fc : Array Value} {nl nb : Nat} {L : Nat → Nat} {bF bO R P : Nat} {rb : Nat → Nat} {lv : Nat → Value} {ls : Nat → List Int} {sv : Nat → Nat → Value} {tab tab' : Nat → Nat → List Bool} {m : Nat} {c : Nat → Nat} {w : World}
    (h : SM W0 fc nl nb L bF bO R P rb lv ls sv tab m c w) (ht : ∀ b, b < m → ∀ k, k < c b → tab b k = tab' b k) : SM W0 fc nl nb L bF bO R P rb lv ls sv tab' m c w :=
  ⟨h.bl, h.f, h.o, h.r, h.p, h.row, h.inj, fun b hb k hk => by rw [← ht b hb k hk]; exact h.set b hb k hk, h.fam, h.at_⟩
theorem SM.box {W0 : World} {fc : Array Value} {nl nb : Nat} {L : Nat → Nat} {bF bO R P : Nat} {rb : Nat → Nat} {lv : Nat → Value} {ls : Nat → List Int} {sv : Nat → Nat → Value} {tab : Nat → Nat → List Bool} {m : Nat} {c : Nat → Nat} {w : World}
    (h : SM W0 fc nl nb L bF bO R P rb lv ls sv tab m c w) {b : Nat} {cs : Array Value} (hb : Bx w b 83 cs) (h0 : W0.heap.size ≤ b) (hr : ∀ a, a < m → rb a ≠ b) (j : Nat) (v : Value) : SM W0 fc nl nb L bF bO R P rb lv ls sv tab m c (w.setCell ⟨b, j, none⟩ v) := by
  have hck : CK [b] w (w.setCell ⟨b, j, none⟩ v) := CK.of_chg (Chg.setCell w (by simp) _)
  have far : ∀ {b' t cs}, Bx w b' t cs → t ≠ 83 → Bx (w.setCell ⟨b, j, none⟩ v) b' t cs := fun hx ht => hck.bx hx (by simpa using hx.ne hb ht)
  exact ⟨h.bl.setCell h0 _, far h.f (by simp), far h.o (by simp), far h.r (by simp), far h.p (by simp), fun a ha => ⟨(h.row a ha).1, hck.bx (h.row a ha).2 (by simpa using hr a ha)⟩, h.inj,
    fun a ha k hk => ⟨(h.set a ha k hk).1.ck hck (fun g hg' => by simpa using (h.set a ha k hk).1.apart hb (by simp) g hg'), (h.set a ha k hk).2⟩,
    h.fam.ck hck (fun a ha g hg' => by
      have := (h.fam.1 a ha).apart hb (by simp)
      rw [hg'] at this
      simpa using this), h.at_⟩
theorem Marks.setCell {base : Nat} {ds : List Deferred} {w : World} (h : Marks base ds w) {b t : Nat} {cs : Array Value} (hb : Bx w b t cs) (j : Nat) (v : Value) : Marks base ds (w.setCell ⟨b, j, none⟩ v) :=
  h.keep (fun k o hk ho => by
    have hne : k ≠ b := fun e => by
      subst e
      rw [hb] at hk
      cases hk
      cases ho
    exact (Below.heap_setCell w ⟨b, j, none⟩ v k hne).trans hk)
theorem Marks.below {base : Nat} {ds : List Deferred} {w w' : World} (h : Marks base ds w) (hb : Below w.heap.size w w') : Marks base ds w' := h.keep (fun k o hk _ => (hb.block k (Array.getElem?_eq_some_iff.1 hk).1).trans hk)
/-- The table while the block i is walked back: d of its sets are new. -/
def tabD (tab : Nat → Nat → List Bool) (F : Fn) (B : Blk) (now : List Bool) (i d : Nat) : Nat → Nat → List Bool := fun b k => if b = i ∧ B.code.length + 1 - d ≤ k ∧ k ≤ B.code.length + 1 then rowD F B now (B.code.length + 1 - k) else tab b k
theorem tabD_step (tab : Nat → Nat → List Bool) (F : Fn) (B : Blk) (now : List Bool) (i d : Nat) (hd : d ≤ B.code.length) (b k : Nat) :
    upd2 (tabD tab F B now i d) i (B.code.length - d) (rowD F B now (d + 1)) b k = tabD tab F B now i (d + 1) b k := by
  unfold upd2 tabD
  by_cases e : b = i
  · by_cases e2 : k = B.code.length - d
    · rw [if_pos ⟨e, e2⟩, if_pos ⟨e, by omega, by omega⟩]
      congr 1
      omega
    · rw [if_neg (fun h => e2 h.2)]
      by_cases h3 : B.code.length + 1 - d ≤ k ∧ k ≤ B.code.length + 1
      · rw [if_pos ⟨e, h3⟩, if_pos ⟨e, by omega, h3.2⟩]
      · rw [if_neg (fun h => h3 h.2), if_neg (fun h => h3 ⟨by omega, h.2.2⟩)]
  · rw [if_neg (fun h => e h.1), if_neg (fun h => e h.1), if_neg (fun h => e h.1)]
theorem Marks.keepLt {base N : Nat} {ds : List Deferred} {w w' : World} (h : Marks base ds w) (hlt : ∀ d, d ∈ ds → ∀ k, d = mark k → k < N) (hk : ∀ k o, k < N → w.heap[k]? = some o → Obj.isCells o = false → w'.heap[k]? = some o) : Marks base ds w' := by
  obtain ⟨Ds, rfl, h2, h3⟩ := h
  exact ⟨Ds, rfl, h2, fun D hD => ⟨(h3 D hD).1, hk _ _ (hlt _ (List.mem_map.2 ⟨D, hD, rfl⟩) D rfl) (h3 D hD).2 rfl⟩⟩
theorem keepsFrom_below {B : Nat} {w w' : World} (h : Below w.heap.size w w') : KeepsFrom B w w' := ⟨h.size, fun k o _ hk _ => (h.block k (Array.getElem?_eq_some_iff.1 hk).1).trans hk⟩
theorem keepsFrom_setCell {B : Nat} (w : World) (p : Addr) (u : Value) {t : Nat} {cs : Array Value} (hb : Bx w p.block t cs) : KeepsFrom B w (w.setCell p u) := ⟨by simp, fun k o _ hk ho => by
  have hne : k ≠ p.block := fun e => by
    subst e
    rw [hb] at hk
    cases hk
    cases ho
  exact (Below.heap_setCell w p u k hne).trans hk⟩
set_option maxHeartbeats 8000000 in
set_option maxRecDepth 1000000 in
theorem solve_rf (F : Fn) (W0 : World) (FC : Array Value) (hF : RFn W0.cell? (.agg FC) F) (hs : Szd F) (bF bO bR bP : Nat) (rb : Nat → Nat) (L : Nat → Nat) (hL : L = fun b => (F.blk b).code.length + 2) (lv : Nat → Value) (ls : Nat → List Int) (tab : Nat → Nat → List Bool) (i : Nat) (hi : i < F.blocks.length)
    (B : Blk) (hB : B = F.blk i) (now : List Bool) (hnow : now.length = F.locals.length) (arr : Array Value) (ds : List Deferred) (w : World) (b11 b12 b66 b29 : Nat) (Ac Ag : Option Addr) (kc kg : Nat) (hc : RRow KIns 7 W0.cell? Ac B.code) (hc1 : B.code.length ≤ kc) (hc2 : kc ≤ maxLen)
    (hg : RInts W0.cell? (.slice Ag B.fin.targets.length kg) B.fin.targets) (H29 : Bx w b29 29 FC) (H66 : Bx w b66 66 #[.slice Ac B.code.length kc, .int .i64 B.fin.kind, .int .i64 B.fin.a, .slice Ag B.fin.targets.length kg]) (vf : Value) (xf : List Bool) (hb12 : W0.heap.size ≤ b12) (hb12r : ∀ b, b < F.blocks.length → rb b ≠ b12) (Q : Exit → Act → World → Prop) (hsz : arr.size = 189) (t3 : arr[3]? = some (.pointer (some ⟨bO, 0, none⟩))) (t11 : arr[11]? = some (.pointer (some ⟨b11, 0, none⟩))) (t12 : arr[12]? = some (.pointer (some ⟨b12, 0, none⟩)))
    (t165 : arr[165]? = some (.func (.func 51) #[] #[.pointer (some ⟨b66, 0, none⟩), .pointer (some ⟨b29, 0, none⟩)]))
    (h0 : ∃ vn sv, SM W0 FC F.locals.length F.blocks.length L bF bO bR bP rb lv ls sv (tabD tab F B now i 0) F.blocks.length L w ∧ Marks W0.heap.size ds w ∧ Bx w b11 3 #[.int .i64 (i : Int)] ∧ Bx w b12 83 #[vn] ∧ OSet W0.heap.size w vn now ∧ OSet W0.heap.size w vf xf)
    (hQ : ∀ D W' vn sv, SM W0 FC F.locals.length F.blocks.length L bF bO bR bP rb lv ls sv (tabD tab F B now i (B.code.length + 1)) F.blocks.length L W' → Marks W0.heap.size (mark D :: ds) W' → Bx W' b11 3 #[.int .i64 (i : Int)] → Bx W' b12 83 #[vn] → OSet W0.heap.size W' vn (rowD F B now (B.code.length + 1)) → OSet W0.heap.size W' vf xf →
      Q .normal (Act.mk arr (mark D :: ds)) W') :
    rfCode.wp Tryz.prog Q (Act.mk arr ds) w := by
  obtain ⟨u, hu⟩ := lit189 arr hsz
  dsimp only at hu
  subst hu
  have e3 : u 3 = .pointer (some ⟨bO, 0, none⟩) := Option.some.inj t3
  have e11 : u 11 = .pointer (some ⟨b11, 0, none⟩) := Option.some.inj t11
  have e12 : u 12 = .pointer (some ⟨b12, 0, none⟩) := Option.some.inj t12
  have e165 : u 165 = .func (.func 51) #[] #[.pointer (some ⟨b66, 0, none⟩), .pointer (some ⟨b29, 0, none⟩)] := Option.some.inj t165
  rw [e3, e11, e12, e165] at hQ ⊢
  clear t3 t11 t12 t165 e3 e11 e12 e165 hsz
  have HQ := Lib.hid hQ
  obtain ⟨vn0, sv0, hSM0, hM0, h110, h120, hO0, hF0⟩ := h0
  clear hQ
  conv => arg 2; whnf
  try dsimp only
  have hDall : ∀ k, k ∈ [b12, rb i] → W0.heap.size ≤ k := fun k hk => by
    rcases List.mem_cons.1 hk with rfl | hk
    · exact hb12
    · rw [List.mem_singleton] at hk
      subst hk
      exact (hSM0.row i hi).1
  have hDlt : ∀ k, k ∈ [b12, rb i] → k < w.heap.size := fun k hk => by
    rcases List.mem_cons.1 hk with rfl | hk
    · exact h120.lt
    · rw [List.mem_singleton] at hk
      subst hk
      exact (hSM0.row i hi).2.lt
  have hle := le_look hSM0.bl hDall
  have h29D : b29 ∉ [b12, rb i] := by
    have h1 := H29.ne h120 (by simp)
    have h2 := H29.ne (hSM0.row i hi).2 (by simp)
    simp [h1, h2]
  have h66D : b66 ∉ [b12, rb i] := by
    have h1 := H66.ne h120 (by simp)
    have h2 := H66.ne (hSM0.row i hi).2 (by simp)
    simp [h1, h2]
  have hmlt := hM0.lt
  refine (wpIn_wide (n := 100)).1 ?_
  refine wpIn_rangeFunc_R rfl (by omega) (gf := 51) (lb := #[.pointer (some ⟨b66, 0, none⟩), .pointer (some ⟨b29, 0, none⟩)]) rfl trivial (enter_of Tryz.func51 (by kernel_rfl) rfl)
    (bw_seq 99 (by omega) [b12, rb i] b66 b29 (.agg FC) F B Ac Ag kc kg w (hF.mono hle) H29 h29D H66 h66D (hc.mono monoIns hle) hc1 hc2 (hg.mono monoInt hle) (by have := hs.code B (by rw [hB]; exact getD_mem hi); omega) (fun x hx => hs.args B (by rw [hB]; exact getD_mem hi) x hx) hDlt)
    (fun h k => h.trans k) (fun W l o o' _ h ho _ => CK.putObj W l o o' h ho) (Below.refl _ _) (fun _ => rfl)
    (fun pre W' => ∃ vn sv, (pre.length ≤ B.code.length + 1 ∧ w.heap.size ≤ W'.heap.size) ∧ SM W0 FC F.locals.length F.blocks.length L bF bO bR bP rb lv ls sv (tabD tab F B now i pre.length) F.blocks.length L W' ∧ Marks W0.heap.size ds W' ∧ Bx W' b11 3 #[.int .i64 (i : Int)] ∧ Bx W' b12 83 #[vn] ∧ OSet W0.heap.size W' vn (rowD F B now pre.length) ∧ OSet W0.heap.size W' vf xf) ?hI
    ⟨vn0, sv0, ⟨Nat.zero_le _, Nat.le_refl _⟩, hSM0, hM0, h110, h120, hO0, hF0⟩
    (fun pre x a' W' => x.1 + pre.length = B.code.length ∧ RUs W'.cell? x.2 (atB F B x.1) ∧ ∃ (bx : Nat) (cs : Array Value), x.2 = .agg cs ∧ w.heap.size ≤ bx ∧ Bx W' bx 40 cs ∧ a'.defers = [] ∧ a'.tmps.size = 189 ∧ a'.tmps[3]? = some (.pointer (some ⟨bO, 0, none⟩)) ∧ a'.tmps[11]? = some (.pointer (some ⟨b11, 0, none⟩)) ∧ a'.tmps[12]? = some (.pointer (some ⟨b12, 0, none⟩)) ∧ a'.tmps[16]? = some (.int .i64 x.1) ∧ a'.tmps[17]? = some (.pointer (some ⟨bx, 0, none⟩))) ?hAx ?assign ?body ?done
  case hI =>
    rintro s A' B' row ⟨vn, sv, h1, h2, h3, h4, h5, h6, h7⟩ hg' hr
    have hck : CK [] A' B' := CK.grownBy hg' (fun r e => (hr r e).2)
    have hrow : ∀ r, row = some r → w.heap.size ≤ r := fun r e => (hr r e).1
    refine ⟨vn, sv, ⟨h1.1, Nat.le_trans h1.2 hg'.size⟩, h2.ck hck ?_, h3.keepLt hmlt (fun k o hk hko _ => ?_), hck.bx h4 (by simp), hck.bx h5 (by simp), h6.ck hck (fun _ _ => by simp), h7.ck hck (fun _ _ => by simp)⟩
    · exact h2.bl.trans ⟨hg'.os, hg'.tape, hg'.output, hg'.size, fun k hk => hg'.block k (Nat.lt_of_lt_of_le hk h2.bl.size) (fun e => by
        have := hrow k e.symm
        have := hSM0.bl.size
        omega)⟩
    · exact (hg'.block k (Array.getElem?_eq_some_iff.1 hko).1 (fun e => by have := hrow k e.symm; omega)).trans hko
  case hAx =>
    rintro pre x a' s A' B' row ⟨h1, h2, bx, cs, h3, h4, h5, h6⟩ hg' hr
    have hck : CK [] A' B' := CK.grownBy hg' (fun r e => (hr r e).2)
    exact ⟨h1, h2.mono hck.le0, bx, cs, h3, h4, hck.bx h5 (by simp), h6⟩
  case done =>
    rintro D' xs W4 hD' hS ⟨vn, sv, h1, h2, h3, h4, h5, h6, h7⟩ hK
    rw [hS] at h2 h6
    exact HQ.out D' W4 vn sv h2 (h3.more (by have := hSM0.bl.size; omega) hK hD' hmlt) h4 h5 h6 h7
  case assign =>
    rintro l' pre ⟨j, vx⟩ W' K ⟨vn, sv, h1, h2, h3, h4, h5, h6, h7⟩ ⟨hR1, hR2⟩ hK
    simp only at hR1 hR2
    obtain ⟨A0, k0, A1, k1, A2, k2, A3, k3, A4, k4, rfl⟩ := hR2.open
    have HR2 := Lib.hid hR2
    have HK := Lib.hid hK
    have HI := Lib.hid (And.intro h1 (And.intro h2 (And.intro h3 (And.intro h4 (And.intro h5 (And.intro h6 h7))))))
    clear hK hR2 h1 h2 h3 h4 h5 h6 h7 HQ hSM0 hM0 h110 h120 hO0 hF0 H29 H66 hle hDall hDlt hc hg hmlt hB hL hs
    simp only [enc2]
    gi_wp2
    obtain ⟨h1, h2, h3, h4, h5, h6, h7⟩ := HI.out
    refine HK.out _ _ ((KeepsOthers.alloc _ _).from _) (CK.of_below (Bl.alloc (Below.refl _ _) _)) ⟨vn, sv, ⟨h1.1, by have := h1.2; simp; omega⟩, h2.alloc _, h3.keep (fun k o hk _ => (Below.heap_alloc _ _ _ (Array.getElem?_eq_some_iff.1 hk).1).trans hk), h4.alloc _, h5.alloc _, h6.below (Bl.alloc (Below.refl _ _) _), h7.below (Bl.alloc (Below.refl _ _) _)⟩
      ⟨hR1, HR2.out.mono (Bl.le (Bl.alloc (Below.refl _ _) _)), _, _, rfl, h1.2, Bx.at0 _ _ _ rfl, rfl, rfl, rfl, rfl, rfl, rfl, rfl⟩
  case body =>
    rintro l' pre ⟨j, vx⟩ ⟨tmps', ds'⟩ W' hl' ⟨vn, sv, h1, h2, h3, h4, h5, h6, h7⟩ ⟨hx1, hx2, bx, cs, hx3, hx4, hx5, hd, hsz, t3, t11, t12, t16, t17⟩
    simp only at hx1 hx2 hx3 t16
    obtain ⟨A0, k0, A1, k1, A2, k2, A3, k3, A4, k4, rfl⟩ := hx2.open
    simp only [Value.agg.injEq] at hx3 hd hsz t3 t11 t12 t16 t17
    subst hx3
    subst hd
    obtain ⟨u', hu'⟩ := lit189 tmps' hsz
    dsimp only at hu'
    subst hu'
    have e3 : u' 3 = .pointer (some ⟨bO, 0, none⟩) := Option.some.inj t3
    have e11 : u' 11 = .pointer (some ⟨b11, 0, none⟩) := Option.some.inj t11
    have e12 : u' 12 = .pointer (some ⟨b12, 0, none⟩) := Option.some.inj t12
    have e16 : u' 16 = .int .i64 j := Option.some.inj t16
    have e17 : u' 17 = .pointer (some ⟨bx, 0, none⟩) := Option.some.inj t17
    rw [e3, e11, e12, e16, e17]
    clear t3 t11 t12 t16 t17 e3 e11 e12 e16 e17 hsz HQ hSM0 hM0 h110 h120 hO0 hF0 H29 H66 hle hDall hc hg
    have HX2 := Lib.hid hx2
    have HS1 := Lib.hid h2
    have HM1 := Lib.hid h3
    have HB11 := Lib.hid h4
    have HB12 := Lib.hid h5
    have HO1 := Lib.hid h6
    have HBX := Lib.hid hx5
    have HF1 := Lib.hid h7
    have HMLT := Lib.hid hmlt
    have HDLT := Lib.hid hDlt
    have HL := Lib.hid hL
    have HBB := Lib.hid hB
    have HNOW := Lib.hid hnow
    have HRB := Lib.hid hb12r
    clear hx2 h2 h3 h4 h5 h6 h7 hx5 hmlt hDlt hL hB hnow hb12r
    obtain ⟨Av, kv, hvv⟩ := HO1.out.shape
    rw [rowD_len, HNOW.out] at hvv
    subst hvv
    have cx := HBX.out.cell
    have c12 := HB12.out.cell 0
    gi_wp2_with fail
    refine ⟨trivial, ?_⟩
    refine (CallsIn.inRound l' (callsIn_wide.2 (through_any _ _ (atB F B j) _ W' HX2.out (by have := HO1.out.bools [] (fun _ _ => by simp); rwa [look_nil] at this) (by rw [rowD_len, HNOW.out]; have := hs.locals; omega)))).mono ?_
    rintro e w1 ⟨⟨vr, rfl, ho⟩, hb1⟩
    obtain ⟨An, kn, hvn⟩ := ho.shape
    rw [thr_len, rowD_len, HNOW.out] at hvn
    subst hvn
    have hj : j = B.code.length - pre.length := by omega
    have hro : rowD F B now (pre.length + 1) = thr (atB F B j) (rowD F B now pre.length) := by rw [rowD, hj]
    have HO2 : Hid (OSet W0.heap.size w1 (.slice An F.locals.length kn) (rowD F B now (pre.length + 1))) := by
      show OSet _ _ _ _
      rw [hro]
      exact ho.base HS1.out.bl.size
    have HS2 := Lib.hid (HS1.out.below hb1)
    have HM2 := Lib.hid (HM1.out.below hb1)
    have HB11' := Lib.hid (HB11.out.below hb1)
    have HB12' := Lib.hid (HB12.out.below hb1)
    have HF2 := Lib.hid (HF1.out.below hb1)
    have HKF := Lib.hid (keepsFrom_below (B := w.heap.size) hb1)
    have HCK := Lib.hid (CK.of_below (D := [b12, rb i]) hb1)
    have HJ := Lib.hid hj
    clear ho hb1 hj hro cx c12 HS1 HM1 HB11 HB12 HO1 HBX HF1
    have c12 := HB12'.out.cell 0
    have f12 := HB12'.out.frozen 0
    gi_wp2_with fail
    obtain ⟨w2, hw2⟩ : ∃ w2, w2 = w1.setCell ⟨b12, 0, none⟩ (.slice An F.locals.length kn) := ⟨_, rfl⟩
    rw [← hw2]
    have HS3 := Lib.hid (HS2.out.box HB12'.out hb12 HRB.out 0 (.slice An F.locals.length kn))
    have HM3 := Lib.hid (HM2.out.setCell HB12'.out 0 (.slice An F.locals.length kn))
    have HB113 := Lib.hid (HB11'.out.far (p := ⟨b12, 0, none⟩) (HB11'.out.ne HB12'.out (by simp)) (.slice An F.locals.length kn))
    have HB123 : Hid (Bx (w1.setCell ⟨b12, 0, none⟩ (.slice An F.locals.length kn)) b12 83 #[.slice An F.locals.length kn]) := HB12'.out.set 0 (.slice An F.locals.length kn)
    have HO3 := Lib.hid (HO2.out.ck (CK.of_chg (Chg.setCell (D := [b12]) w1 (p := ⟨b12, 0, none⟩) (by simp) (.slice An F.locals.length kn))) (fun g hg => by simpa using HO2.out.apart HB12'.out (by simp) g hg))
    have HF3 := Lib.hid (HF2.out.ck (CK.of_chg (Chg.setCell (D := [b12]) w1 (p := ⟨b12, 0, none⟩) (by simp) (.slice An F.locals.length kn))) (fun g hg => by simpa using HF2.out.apart HB12'.out (by simp) g hg))
    have HKF3 := Lib.hid (HKF.out.trans (keepsFrom_setCell (B := w.heap.size) w1 ⟨b12, 0, none⟩ (.slice An F.locals.length kn) HB12'.out))
    have HCK3 := Lib.hid (HCK.out.trans (CK.of_chg (Chg.setCell (D := [b12, rb i]) w1 (p := ⟨b12, 0, none⟩) (by simp) (.slice An F.locals.length kn))))
    rw [← hw2] at HS3 HM3 HB113 HB123 HO3 HF3 HKF3 HCK3
    clear hw2 HS2 HM2 HB11' HB12' HO2 HF2 HKF HCK c12 f12
    obtain ⟨lB, hlB⟩ : ∃ lB, lB = B.code.length := ⟨_, rfl⟩
    have hLi : L i = lB + 2 := by rw [HL.out, hlB, HBB.out]
    have hjl : j < lB + 2 := by rw [hlB]; omega
    have hji : (j : Int) < (lB : Int) + 2 := by omega
    have hii : (i : Int) < (F.blocks.length : Int) := by omega
    have cO := HS3.out.cO
    have cR := HS3.out.cR (b := i) hi hi
    rw [hLi] at cR
    have c12 := HB123.out.cell 0
    have c11 := HB113.out.cell 0
    have HLI := Lib.hid hLi
    have HLB := Lib.hid hlB
    clear hLi hlB
    refine wpIn_region_any (by kernel_rfl) ?_
    refine AnyS.any (S := (fun w'' : World => w''.cell? ⟨b12, 0, none⟩ = some (.slice An F.locals.length kn) ∧ w''.cell? ⟨bO, 0, none⟩ = some (.slice (some ⟨bR, 0, none⟩) F.blocks.length F.blocks.length) ∧ w''.cell? ⟨bR, i, none⟩ = some (.slice (some ⟨rb i, 0, none⟩) (lB + 2) (lB + 2)) ∧ w''.cell? ⟨b11, 0, none⟩ = some (.int .i64 (i : Int)))) _ _ _ _ ?_
    change AnyS _ _ _ _ _ _ _ _ _ _ (World.drew _)
    have hSd : (fun w'' : World => w''.cell? ⟨b12, 0, none⟩ = some (.slice An F.locals.length kn) ∧ w''.cell? ⟨bO, 0, none⟩ = some (.slice (some ⟨bR, 0, none⟩) F.blocks.length F.blocks.length) ∧ w''.cell? ⟨bR, i, none⟩ = some (.slice (some ⟨rb i, 0, none⟩) (lB + 2) (lB + 2)) ∧ w''.cell? ⟨b11, 0, none⟩ = some (.int .i64 (i : Int))) w2.drew := ⟨c12, cO, cR, c11⟩
    (refine AnyS.take (i := 0) (v := ?_) (by kernel_rfl) rfl (by kernel_rfl) (by kernel_rfl) (by kernel_rfl) (fun _ _ _ h => h) (by assumption) ⟨⟨by rfl, ?_⟩, fun _ => rfl⟩ ?_; rotate_left; (rintro w' ⟨hs1, hs2, hs3, hs4⟩; go_simp; rfl))
    (refine AnyS.take (i := 1) (v := ?_) (by kernel_rfl) rfl (by kernel_rfl) (by kernel_rfl) (by kernel_rfl) (fun _ _ _ h => h) (by assumption) ⟨⟨by rfl, ?_⟩, fun _ => rfl⟩ ?_; rotate_left; (rintro w' ⟨hs1, hs2, hs3, hs4⟩; go_simp; rfl))
    (refine AnyS.take (i := 2) (v := ?_) (by kernel_rfl) rfl (by kernel_rfl) (by kernel_rfl) (by kernel_rfl) (fun _ _ _ h => h) (by assumption) ⟨⟨by rfl, ?_⟩, fun _ => rfl⟩ ?_; rotate_left; (rintro w' ⟨hs1, hs2, hs3, hs4⟩; go_simp; rfl))
    (refine AnyS.take (i := 3) (v := ?_) (by kernel_rfl) rfl (by kernel_rfl) (by kernel_rfl) (by kernel_rfl) (fun _ _ _ h => h) (by assumption) ⟨⟨by rfl, ?_⟩, fun _ => rfl⟩ ?_; rotate_left; (rintro w' ⟨hs1, hs2, hs3, hs4⟩; go_simp; rfl))
    (refine AnyS.take (i := 4) (v := ?_) (by kernel_rfl) rfl (by kernel_rfl) (by kernel_rfl) (by kernel_rfl) (fun _ _ _ h => h) (by assumption) ⟨⟨by rfl, ?_⟩, fun _ => rfl⟩ ?_; rotate_left; (rintro w' ⟨hs1, hs2, hs3, hs4⟩; go_simp; rfl))
    (refine AnyS.take (i := 5) (v := ?_) (by kernel_rfl) rfl (by kernel_rfl) (by kernel_rfl) (by kernel_rfl) (fun _ _ _ h => h) (by assumption) ⟨⟨by rfl, ?_⟩, fun _ => rfl⟩ ?_; rotate_left; (rintro w' ⟨hs1, hs2, hs3, hs4⟩; go_simp; rfl))
    (refine AnyS.take (i := 6) (v := ?_) (by kernel_rfl) rfl (by kernel_rfl) (by kernel_rfl) (by kernel_rfl) (fun _ _ _ h => h) (by assumption) ⟨⟨by rfl, ?_⟩, fun _ => rfl⟩ ?_; rotate_left; (rintro w' ⟨hs1, hs2, hs3, hs4⟩; go_simp; rfl))
    refine AnyS.one (i := 7) (by kernel_rfl) ?_
    refine wpOpIn_step rfl (fun K hK => ?_)
    have hrow := HS3.out.row i hi
    rw [HLI.out] at hrow
    have cW := (hrow.2.drew.cell j).trans (tabA_get hjl)
    have fW := hrow.2.drew.frozen j
    go_simp
    have HR := Lib.hid hrow.2
    refine hK _ _ ⟨⟨?_, ?_, ?_, ?_⟩, ?_⟩
    · exact (World.cell?_setCell_other _ _ _ _ (fun e => HRB.out i hi (by rw [Addr.mk.injEq] at e; first | exact e.1 | exact e.1.symm))).trans c12
    · exact (World.cell?_setCell_other _ _ _ _ (fun e => HS3.out.o.ne HR.out (by simp) (by rw [Addr.mk.injEq] at e; first | exact e.1 | exact e.1.symm))).trans cO
    · exact (World.cell?_setCell_other _ _ _ _ (fun e => HS3.out.r.ne HR.out (by simp) (by rw [Addr.mk.injEq] at e; first | exact e.1 | exact e.1.symm))).trans cR
    · exact (World.cell?_setCell_other _ _ _ _ (fun e => HB113.out.ne HR.out (by simp) (by rw [Addr.mk.injEq] at e; first | exact e.1 | exact e.1.symm))).trans c11
    clear hK K
    refine AnyS.done (by kernel_rfl) ?_ _
    have hput := HS3.out.put (i := i) (k := j) hi HO3.out (by rw [rowD_len]; exact HNOW.out) (by rw [HLI.out]; omega) (by rw [HLI.out]; exact hjl)
    have hmax : max (L i) (j + 1) = L i := by rw [HLI.out]; omega
    rw [hmax, upd_self] at hput
    have hput2 := hput.tab_congr (tab' := tabD tab F B now i (pre.length + 1)) (fun b _ k _ => by rw [HJ.out]; exact tabD_step tab F B now i pre.length (by omega) b k)
    have HPUT := Lib.hid hput2
    clear hput hput2 hmax cO cR c12 c11 hSd cW fW
    gi_wp2
    refine ⟨(HKF3.out.trans (keepsFrom_setCell (B := w.heap.size) w2 ⟨rb i, j, none⟩ (.slice An F.locals.length kn) HR.out)).trans (keepsFrom_below (Bl.drew (Below.refl _ _))),
      (HCK3.out.trans (CK.of_chg (Chg.setCell (D := [b12, rb i]) w2 (p := ⟨rb i, j, none⟩) (by simp) _))).trans (CK.of_below (Bl.drew (Below.refl _ _))),
      .slice An F.locals.length kn, upd2 sv i j (.slice An F.locals.length kn), ⟨?_, ?_⟩, ?_, (HM3.out.setCell HR.out j _).below (Bl.drew (Below.refl _ _)), (HB113.out.far (HB113.out.ne HR.out (by simp)) _).drew, (HB123.out.far (fun e => HRB.out i hi e.symm) _).drew, ?_, (HF3.out.ck (CK.of_chg (Chg.setCell (D := [rb i]) w2 (p := ⟨rb i, j, none⟩) (by simp) _)) (fun g hg => by simpa using HF3.out.apart HR.out (by simp) g hg)).below (Bl.drew (Below.refl _ _))⟩
    rotate_left 2
    · rw [List.length_append, List.length_cons, List.length_nil, Nat.zero_add]
      exact HPUT.out.drew
    · rw [List.length_append, List.length_cons, List.length_nil, Nat.zero_add]
      exact (HO3.out.ck (CK.of_chg (Chg.setCell (D := [rb i]) w2 (p := ⟨rb i, j, none⟩) (by simp) _)) (fun g hg => by simpa using HO3.out.apart HR.out (by simp) g hg)).below (Bl.drew (Below.refl _ _))
    · rw [List.length_append, List.length_cons, List.length_nil]
      have := h1.1
      omega
    · have := HKF3.out.size
      have := h1.2
      simp
      omega
end Go.Proofs.YtdkjkgokllmkmaaGreatDoor.Lv
