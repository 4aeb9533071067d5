/- Walks: the example's function. -/
import Derived.Test.YtdkjkgokllmkmaaGreatDoorLwn
namespace Go.Proofs.YtdkjkgokllmkmaaGreatDoor.Lv
open Go.RowKit
set_option linter.unusedVariables false
set_option linter.unusedSimpArgs false
def exT : Ty := .mk 1 0 []
def exI : Ins := ⟨1, 0, 0, 0, 1, [], []⟩
def exJ : Ins := ⟨1, 1, 0, 0, 0, [], []⟩
def exB0 : Blk := ⟨[exI], ⟨2, 0, [1, 2]⟩⟩
def exB1 : Blk := ⟨[exJ], ⟨1, 0, [3]⟩⟩
def exB2 : Blk := ⟨[], ⟨1, 0, [3]⟩⟩
def exB3 : Blk := ⟨[], ⟨4, 0, []⟩⟩
def exF : Fn := ⟨ByteArray.empty, 0, 0, [], 0, exT, [exT, exT], [exB0, exB1, exB2, exB3], []⟩
theorem rsl_new {α : Type} {K : Lk → α → List Value → Prop} {sz : Nat} (b0 : Nat) (w : World) (cells : Array Value) (t : Nat) (xs : List α) (n : Nat) (hb : b0 < w.heap.size) (hn : n = xs.length) (hm : n ≤ maxLen)
    (h : ∀ (j : Nat) (x : α), xs[j]? = some x → ∃ es : List Value, es.length = sz ∧ K (look [b0] (w.alloc (.cells cells t))) x es ∧ ∀ (i : Nat) (u : Value), es[i]? = some u → cells[j * sz + i]? = some u) :
    RSl K sz (look [b0] (w.alloc (.cells cells t))) (.slice (some ⟨w.heap.size, 0, none⟩) n n) xs := by
  subst hn
  refine ⟨_, _, rfl, Nat.le_refl _, hm, fun j x hj => ?_⟩
  obtain ⟨es, h1, h2, h3⟩ := h j x hj
  refine ⟨⟨w.heap.size, 0, none⟩, es, rfl, h1, h2, fun i u hu => ?_⟩
  rw [Addr.add_lit, Nat.zero_add]
  exact cell_look (by simp; omega) (((Bx.new w t cells).cell _).trans (h3 i u hu))
theorem kty0 (c : Lk) (k i : Int) : KTy c (.mk k i []) [.int .i64 k, .int .i64 i, .slice none 0 0] :=
  .mk k i [] none 0 ⟨0, 0, none⟩ (fun _ => []) (by simp) (by simp) (by simp) (by simp) (by simp) (by simp)
set_option maxRecDepth 100000 in
theorem jump_any (m : Int) (w : World) : Calls Tryz.prog 42 #[.int .i64 m] w fun e w' => (e = .returned (.agg #[.int .i64 1, .int .i64 0, .slice (some ⟨w.heap.size + 1, 0, none⟩) 1 1]) ∧ w'.cell? ⟨w.heap.size + 1, 0, none⟩ = some (.int .i64 m)) ∧ Below w.heap.size w w' := by
  go_enter Tryz.func42, Tryz.ntmps42
  go_wp2
  refine bodyPost_ret (v := .agg #[.int .i64 1, .int .i64 0, .slice (some ⟨w.heap.size + 1, 0, none⟩) 1 1]) (by simp [results, Tryz.results42, go_sem]) rfl ?_
  refine ⟨⟨rfl, ?_⟩, Bl.alloc (Bl.alloc (Below.refl _ _) _) _⟩
  exact (Bx.at0 (w.alloc _) 3 #[.int .i64 m] (by simp)).cell 0
theorem rints_one {b0 b : Nat} {w : World} {m : Int} (h : w.cell? ⟨b, 0, none⟩ = some (.int .i64 m)) (hb : b ≠ b0) : RInts (look [b0] w) (.slice (some ⟨b, 0, none⟩) 1 1) [m] := by
  refine ⟨_, _, rfl, Nat.le_refl _, by simp [maxLen], fun j x hj => ?_⟩
  have hj0 : j = 0 := by have := (List.getElem?_eq_some_iff.1 hj).1; simp at this; exact this
  subst hj0
  obtain rfl : m = x := by simpa using hj
  refine ⟨_, [.int .i64 m], rfl, rfl, rfl, fun i u hu => ?_⟩
  have hi : i = 0 := by have := (List.getElem?_eq_some_iff.1 hu).1; simp at this; exact this
  subst hi
  obtain rfl : Value.int .i64 m = u := by simpa using hu
  rw [Addr.add_lit]
  exact cell_look (by simpa using hb) h
def PB (c : Lk) (v : Value) (B : Blk) : Prop := ∃ vc vt, v = .agg #[vc, .int .i64 B.fin.kind, .int .i64 B.fin.a, vt] ∧ RSl KIns 7 c vc B.code ∧ RInts c vt B.fin.targets
def Ph (c : Lk) : Nat → Value → Prop
  | 0, v => v = .agg #[.int .i64 1, .int .i64 0, nilS]
  | 1, v => v = .agg #[.int .i64 1, .int .i64 0, nilS]
  | 2, v => v = .agg #[.int .i64 1, .int .i64 0, nilS]
  | 3, v => RSl KTy 3 c v [exT, exT]
  | 4, v => v = .agg #[.int .i64 1, .int .i64 0, .int .i64 0, .int .i64 0, .int .i64 1, nilS, nilS]
  | 5, v => RSl KIns 7 c v [exI]
  | 6, v => RInts c v [1, 2]
  | 7, v => ∃ vt, v = .agg #[.int .i64 2, .int .i64 0, vt] ∧ RInts c vt [1, 2]
  | 8, v => PB c v exB0
  | 9, v => v = .agg #[.int .i64 1, .int .i64 1, .int .i64 0, .int .i64 0, .int .i64 0, nilS, nilS]
  | 10, v => RSl KIns 7 c v [exJ]
  | 11, v => v = .func (.func 42) #[] #[]
  | 12, v => ∃ vt, v = .agg #[.int .i64 1, .int .i64 0, vt] ∧ RInts c vt [3]
  | 13, v => PB c v exB1
  | 14, v => v = .func (.func 42) #[] #[]
  | 15, v => ∃ vt, v = .agg #[.int .i64 1, .int .i64 0, vt] ∧ RInts c vt [3]
  | 16, v => PB c v exB2
  | 17, v => v = .agg #[.int .i64 4, .int .i64 0, nilS]
  | 18, v => PB c v exB3
  | 19, v => RSl KBlk 4 c v [exB0, exB1, exB2, exB3]
  | 20, v => RFn c v exF
  | _, _ => True
theorem PB.below {c c' : Lk} {v : Value} {B : Blk} (h : PB c v B) (hb : Le c c') : PB c' v B := by
  obtain ⟨vc, vt, e, h1, h2⟩ := h
  exact ⟨vc, vt, e, h1.mono monoIns hb, h2.mono monoInt hb⟩
theorem Ph.below {c c' : Lk} (hb : Le c c') : ∀ (i : Nat) (v : Value), i < 21 → Ph c i v → Ph c' i v := by
  intro i v hi h
  match i, hi, h with
  | 0, _, h => exact h
  | 1, _, h => exact h
  | 2, _, h => exact h
  | 3, _, h => exact RSl.mono monoTy hb h
  | 4, _, h => exact h
  | 5, _, h => exact RSl.mono monoIns hb h
  | 6, _, h => exact RSl.mono monoInt hb h
  | 7, _, ⟨vt, e, h⟩ => exact ⟨vt, e, RSl.mono monoInt hb h⟩
  | 8, _, h => exact PB.below h hb
  | 9, _, h => exact h
  | 10, _, h => exact RSl.mono monoIns hb h
  | 11, _, h => exact h
  | 12, _, ⟨vt, e, h⟩ => exact ⟨vt, e, RSl.mono monoInt hb h⟩
  | 13, _, h => exact PB.below h hb
  | 14, _, h => exact h
  | 15, _, ⟨vt, e, h⟩ => exact ⟨vt, e, RSl.mono monoInt hb h⟩
  | 16, _, h => exact PB.below h hb
  | 17, _, h => exact h
  | 18, _, h => exact PB.below h hb
  | 19, _, h => exact RSl.mono monoBlk hb h
  | 20, _, h => exact RFn.mono hb h
  | k + 21, hk, _ => exact absurd hk (by omega)
def exZ : Array Value := #[.string ByteArray.empty, .int .i64 0, .int .i64 0, .slice none 0 0, .int .i64 0, .int .i64 0, .int .i64 0, .slice none 0 0, .slice none 0 0, .slice none 0 0, .slice none 0 0]
structure ExI (W0 : World) (b0 b1 : Nat) (listed : Array Bool) (a : Act) (w : World) : Prop where
  sz : a.tmps.size = 25
  df : a.defers = []
  t0 : a.tmps.getD 0 undef = .pointer (some ⟨b0, 0, none⟩)
  t1 : a.tmps.getD 1 undef = .pointer (some ⟨b1, 0, none⟩)
  t2 : a.tmps.getD 2 undef = .func (.func 42) #[] #[]
  bl : Below W0.heap.size W0 w
  x0 : ∃ cs, Bx w b0 29 cs ∧ (listed.getD 21 false = false → cs = exZ) ∧ (listed.getD 21 false = true → RFn (look [b0] w) (.agg cs) exF)
  x1 : Bx w b1 25 #[.int .i64 1, .int .i64 0, nilS]
  base : W0.heap.size ≤ b0
  lsz : listed.size = 22
  last : listed.getD 21 false = true → ∀ j, j < 21 → listed.getD j false = true
  ph : ∀ i, i < 21 → listed.getD i false = true → Ph (look [b0] w) i (a.tmps.getD (i + 4) undef)
theorem ExI.put {W0 : World} {b0 b1 : Nat} {listed : Array Bool} {a : Act} {w w' : World} (h : ExI W0 b0 b1 listed a w) (hl : listed.size = 22) {i : Nat} (hi : i < 21) {v : Value} (hb : Below w.heap.size w w') (hv : Ph (look [b0] w') i v) (hu : listed.getD 21 true = false) :
    ExI W0 b0 b1 (listed.setIfInBounds i true) (Act.mk (a.tmps.setIfInBounds (i + 4) v) []) w' := by
  have hne : ∀ j, j ≠ i + 4 → (a.tmps.setIfInBounds (i + 4) v).getD j undef = a.tmps.getD j undef := fun j hj => by
    rw [Array.getD_eq_getD_getElem?, Array.getD_eq_getD_getElem?, Array.getElem?_setIfInBounds, if_neg (fun e => hj e.symm)]
  obtain ⟨cs, h1, h2, h3⟩ := h.x0
  refine ⟨by simp [h.sz], rfl, by rw [hne 0 (by omega)]; exact h.t0, by rw [hne 1 (by omega)]; exact h.t1, by rw [hne 2 (by omega)]; exact h.t2, Bl.call h.bl hb, ⟨cs, h1.below hb, fun e => h2 (by rwa [getD_set_ne false (by omega)] at e), fun e => ?_⟩, h.x1.below hb, h.base, by simpa using h.lsz, fun e => ?_, fun j hj he => ?_⟩
  · rw [getD_set_ne false (by omega)] at e
    have : listed.getD 21 false = false := by
      have hlt : 21 < listed.size := by omega
      simpa [Array.getD, hlt] using hu
    rw [this] at e
    cases e
  · rw [getD_set_ne false (by omega)] at e
    have : listed.getD 21 false = false := by
      have hlt : 21 < listed.size := by omega
      simpa [Array.getD, hlt] using hu
    rw [this] at e
    cases e
  · by_cases e : j = i
    · subst e
      have : (a.tmps.setIfInBounds (j + 4) v).getD (j + 4) undef = v := by
        have : j + 4 < a.tmps.size := by rw [h.sz]; omega
        simp [Array.getD_eq_getD_getElem?, this]
      rw [this]
      exact hv
    · rw [getD_set_ne false (fun h => e h.symm)] at he
      rw [hne (j + 4) (by omega)]
      exact Ph.below (Chg.of_below hb [b0]).le j _ hj (h.ph j hj he)
theorem bxset {b t : Nat} {w : World} {cs cs' : Array Value} (h : Bx w b t cs) (j : Nat) (v : Value) (e : cs.setIfInBounds j v = cs') : Bx (w.setCell ⟨b, j, none⟩ v) b t cs' := by
  rw [← e]
  exact h.set j v
theorem sets11 {b : Nat} {w : World} (h : Bx w b 29 exZ) (v0 v1 v2 v3 v4 v5 v6 v7 v8 v9 v10 : Value) :
    Chg [b] w (((((((((((w.setCell ⟨b, 0, none⟩ v0).setCell ⟨b, 1, none⟩ v1).setCell ⟨b, 2, none⟩ v2).setCell ⟨b, 3, none⟩ v3).setCell ⟨b, 4, none⟩ v4).setCell ⟨b, 5, none⟩ v5).setCell ⟨b, 6, none⟩ v6).setCell ⟨b, 7, none⟩ v7).setCell ⟨b, 8, none⟩ v8).setCell ⟨b, 9, none⟩ v9).setCell ⟨b, 10, none⟩ v10) ∧
    Bx (((((((((((w.setCell ⟨b, 0, none⟩ v0).setCell ⟨b, 1, none⟩ v1).setCell ⟨b, 2, none⟩ v2).setCell ⟨b, 3, none⟩ v3).setCell ⟨b, 4, none⟩ v4).setCell ⟨b, 5, none⟩ v5).setCell ⟨b, 6, none⟩ v6).setCell ⟨b, 7, none⟩ v7).setCell ⟨b, 8, none⟩ v8).setCell ⟨b, 9, none⟩ v9).setCell ⟨b, 10, none⟩ v10) b 29 #[v0, v1, v2, v3, v4, v5, v6, v7, v8, v9, v10] := by
  have hm : ∀ j, (⟨b, j, none⟩ : Addr).block ∈ [b] := fun j => by simp
  refine ⟨?_, ?_⟩
  · exact ((((((((((((Chg.refl [b] w).trans (Chg.setCell _ (hm 0) v0)).trans (Chg.setCell _ (hm 1) v1)).trans (Chg.setCell _ (hm 2) v2)).trans (Chg.setCell _ (hm 3) v3)).trans (Chg.setCell _ (hm 4) v4)).trans (Chg.setCell _ (hm 5) v5)).trans (Chg.setCell _ (hm 6) v6)).trans (Chg.setCell _ (hm 7) v7)).trans (Chg.setCell _ (hm 8) v8)).trans (Chg.setCell _ (hm 9) v9)).trans (Chg.setCell _ (hm 10) v10))
  · unfold exZ at h
    have h0 := bxset h 0 v0 (cs' := #[v0, .int .i64 0, .int .i64 0, .slice none 0 0, .int .i64 0, .int .i64 0, .int .i64 0, .slice none 0 0, .slice none 0 0, .slice none 0 0, .slice none 0 0]) rfl
    have h1 := bxset h0 1 v1 (cs' := #[v0, v1, .int .i64 0, .slice none 0 0, .int .i64 0, .int .i64 0, .int .i64 0, .slice none 0 0, .slice none 0 0, .slice none 0 0, .slice none 0 0]) rfl
    have h2 := bxset h1 2 v2 (cs' := #[v0, v1, v2, .slice none 0 0, .int .i64 0, .int .i64 0, .int .i64 0, .slice none 0 0, .slice none 0 0, .slice none 0 0, .slice none 0 0]) rfl
    have h3 := bxset h2 3 v3 (cs' := #[v0, v1, v2, v3, .int .i64 0, .int .i64 0, .int .i64 0, .slice none 0 0, .slice none 0 0, .slice none 0 0, .slice none 0 0]) rfl
    have h4 := bxset h3 4 v4 (cs' := #[v0, v1, v2, v3, v4, .int .i64 0, .int .i64 0, .slice none 0 0, .slice none 0 0, .slice none 0 0, .slice none 0 0]) rfl
    have h5 := bxset h4 5 v5 (cs' := #[v0, v1, v2, v3, v4, v5, .int .i64 0, .slice none 0 0, .slice none 0 0, .slice none 0 0, .slice none 0 0]) rfl
    have h6 := bxset h5 6 v6 (cs' := #[v0, v1, v2, v3, v4, v5, v6, .slice none 0 0, .slice none 0 0, .slice none 0 0, .slice none 0 0]) rfl
    have h7 := bxset h6 7 v7 (cs' := #[v0, v1, v2, v3, v4, v5, v6, v7, .slice none 0 0, .slice none 0 0, .slice none 0 0]) rfl
    have h8 := bxset h7 8 v8 (cs' := #[v0, v1, v2, v3, v4, v5, v6, v7, v8, .slice none 0 0, .slice none 0 0]) rfl
    have h9 := bxset h8 9 v9 (cs' := #[v0, v1, v2, v3, v4, v5, v6, v7, v8, v9, .slice none 0 0]) rfl
    have h10 := bxset h9 10 v10 (cs' := #[v0, v1, v2, v3, v4, v5, v6, v7, v8, v9, v10]) rfl
    exact h10
theorem ExI.store {W0 : World} {b0 b1 : Nat} {listed : Array Bool} {tmps : Array Value} {w w' : World} (h : ExI W0 b0 b1 listed (Act.mk tmps []) w) (hl : listed.size = 22) (hc : Chg [b0] w w') {cs : Array Value} (hx : Bx w' b0 29 cs) (hr : RFn (look [b0] w') (.agg cs) exF)
    (hall : ∀ j, j < 21 → listed.getD j false = true) : ExI W0 b0 b1 (listed.setIfInBounds 21 true) (Act.mk tmps []) w' := by
  obtain ⟨cs0, h1, _, _⟩ := h.x0
  refine ⟨h.sz, rfl, h.t0, h.t1, h.t2, Bl.chg h.bl hc (fun i hi => by rw [List.mem_singleton] at hi; subst hi; exact h.base), ⟨cs, hx, fun e => ?_, fun _ => hr⟩, h.x1.chg hc (by simpa using (h.x1.ne h1 (by simp))), h.base, by simpa using h.lsz, fun _ j hj => ?_, fun i hi he => ?_⟩
  · have : 21 < listed.size := by omega
    simp [Array.getD, this] at e
  · rw [getD_set_ne false (by omega)]
    exact hall j hj
  · rw [getD_set_ne false (by omega)] at he
    exact Ph.below hc.le i _ hi (h.ph i hi he)
set_option maxHeartbeats 4000000 in
set_option maxRecDepth 100000 in
theorem example_any (w : World) : Calls Tryz.prog 28 #[] w fun e w' => (∃ v, e = .returned v ∧ RFn w'.cell? v exF) ∧ Below w.heap.size w w' := by
  go_enter Tryz.func28, Tryz.ntmps28
  go_upto_region 3 with fail
  have hz : Hid (Below w.heap.size w ((w.alloc (.cells #[.string ByteArray.empty, .int .i64 0, .int .i64 0, nilS, .int .i64 0, .int .i64 0, .int .i64 0, nilS, nilS, nilS, nilS] 29)).alloc (.cells #[.int .i64 1, .int .i64 0, nilS] 25))) := Bl.alloc (Bl.alloc (Below.refl _ _) _) _
  refine region_inv (ExI w w.heap.size (w.heap.size + 1)) (by kernel_rfl) ?hend ?hstep ?h0
  case h0 =>
    exact ⟨rfl, rfl, rfl, rfl, rfl, Bl.drew hz.out, ⟨_, ((Bx.at0 _ _ _ rfl).alloc _).drew, fun _ => rfl, fun h => by simp [Array.getD] at h⟩, (Bx.at0 _ _ _ (by simp)).drew, Nat.le_refl _, rfl, fun h => by simp [Array.getD] at h, fun i hi h => by
      have : i < 22 := by omega
      simp [Array.getD, this] at h⟩
  case hend =>
    clear hz
    rintro listed ⟨tmps, ds⟩ w2 hI hall
    have hd := hI.df
    simp only at hd
    subst hd
    obtain ⟨cs, hx, _, hr⟩ := id hI.x0
    have h21 := hall 21 (by decide)
    have hs : 21 < listed.size := by rw [hI.lsz]; omega
    have hrf := hr (by simpa [Array.getD, hs] using h21)
    obtain ⟨mo, pa, ar, vb, vr, vl, vk, vt, Ab, At, nb, cb, nt, ct, e, rfl, rfl, m1, m2, ⟨Ar, kr, rfl, q1⟩, ⟨Al, kl, rfl, q2⟩, ⟨Ak, kk, rfl, q3⟩⟩ := id hrf
    simp only [Value.agg.injEq] at e
    have HR := Lib.hid (hrf.mono (look_le _ _))
    have HB := Lib.hid hI.bl
    subst e
    have cz := hx.cell
    have fz := hx.frozen
    have t0 := hI.t0
    simp only at t0
    rw [Array.getD_eq_getD_getElem?] at t0
    clear q1 q2 q3 hr hrf hall h21 hI hx
    go_wp2
    refine bodyPost_ret (v := .agg #[.string exF.name, .int .i64 mo, .int .i64 pa, .slice Ab nb cb, .int .i64 ar, .int .i64 exF.result.kind, .int .i64 exF.result.id, .slice Ar exF.result.args.length kr, .slice Al exF.locals.length kl, .slice Ak exF.blocks.length kk, .slice At nt ct]) (by simp [results, Tryz.results28, go_sem, t0, cz]) rfl ?_
    exact ⟨⟨_, rfl, HR.out⟩, HB.out⟩
  case hstep =>
    clear hz
    rintro i o ho listed ⟨tmps, ds⟩ w2 hls hl hb hI
    replace hls : listed.size = 22 := hls
    have hi : i < 22 := (Array.getElem?_eq_some_iff.1 ho).1
    have hd := hI.df
    simp only at hd
    subst hd
    have hu21 : i < 21 → listed.getD 21 true = false := fun h => by
      cases he : listed.getD 21 true with
      | false => rfl
      | true =>
        have h21 : 21 < listed.size := by omega
        have hil : i < listed.size := by omega
        have := hI.last (by simpa [Array.getD, h21] using he) i h
        have e1 : listed[i] = true := by simpa [Array.getD, hil] using this
        have e2 : listed[i] = false := by simpa [Array.getD, hil] using hl
        rw [e1] at e2
        cases e2
    obtain rfl | rfl | rfl | rfl | rfl | rfl | rfl | rfl | rfl | rfl | rfl | rfl | rfl | rfl | rfl | rfl | rfl | rfl | rfl | rfl | rfl | rfl : i = 0 ∨ i = 1 ∨ i = 2 ∨ i = 3 ∨ i = 4 ∨ i = 5 ∨ i = 6 ∨ i = 7 ∨ i = 8 ∨ i = 9 ∨ i = 10 ∨ i = 11 ∨ i = 12 ∨ i = 13 ∨ i = 14 ∨ i = 15 ∨ i = 16 ∨ i = 17 ∨ i = 18 ∨ i = 19 ∨ i = 20 ∨ i = 21 := by omega
    all_goals (simp only [List.getElem?_toArray, List.getElem?_cons_zero, List.getElem?_cons_succ, Option.some.injEq] at ho; subst ho)
    · have HU : listed.getD 21 true = false := hu21 (by omega)
      refine wpOpIn_step rfl (fun K hK => ?_)
      have t0 := hI.t0
      have t1 := hI.t1
      have t2 := hI.t2
      simp only at t0 t1 t2
      have x1 := hI.x1.cell
      unfold nilS at x1
      go_simp
      exact hK _ _ (hI.put hls (i := 0) (by omega) (Below.refl _ _) rfl HU)
    · have HU : listed.getD 21 true = false := hu21 (by omega)
      refine wpOpIn_step rfl (fun K hK => ?_)
      have t0 := hI.t0
      have t1 := hI.t1
      have t2 := hI.t2
      simp only at t0 t1 t2
      have x1 := hI.x1.cell
      unfold nilS at x1
      go_simp
      exact hK _ _ (hI.put hls (i := 1) (by omega) (Below.refl _ _) rfl HU)
    · have HU : listed.getD 21 true = false := hu21 (by omega)
      refine wpOpIn_step rfl (fun K hK => ?_)
      have t0 := hI.t0
      have t1 := hI.t1
      have t2 := hI.t2
      simp only at t0 t1 t2
      have x1 := hI.x1.cell
      unfold nilS at x1
      go_simp
      exact hK _ _ (hI.put hls (i := 2) (by omega) (Below.refl _ _) rfl HU)
    · have HU : listed.getD 21 true = false := hu21 (by omega)
      refine wpOpIn_step rfl (fun K hK => ?_)
      have t0 := hI.t0
      have t1 := hI.t1
      have t2 := hI.t2
      have hb0 : w.heap.size < w2.heap.size := hI.x0.choose_spec.1.lt
      simp only at t0 t1 t2
      have p1 : tmps.getD 5 undef = .agg #[.int .i64 1, .int .i64 0, nilS] := hI.ph 1 (by omega) (hb ⟨1, .data⟩ (by simp) rfl)
      unfold nilS at p1
      rw [Array.getD_eq_getD_getElem?] at p1
      have p2 : tmps.getD 6 undef = .agg #[.int .i64 1, .int .i64 0, nilS] := hI.ph 2 (by omega) (hb ⟨2, .data⟩ (by simp) rfl)
      unfold nilS at p2
      rw [Array.getD_eq_getD_getElem?] at p2
      go_simp
      refine hK _ _ (hI.put hls (i := 3) (by omega) (Bl.alloc (Below.refl _ _) _) (rsl_new _ _ _ _ [exT, exT] 2 hb0 rfl (by simp [maxLen]) ?_) HU)
      intro j x hj
      match j, hj with
      | 0, hj => obtain rfl : exT = x := by simpa using hj
                 exact ⟨[.int .i64 1, .int .i64 0, .slice none 0 0], rfl, kty0 _ _ _, fun i u hu => by match i, hu with | 0, hu => exact hu | 1, hu => exact hu | 2, hu => exact hu⟩
      | 1, hj => obtain rfl : exT = x := by simpa using hj
                 exact ⟨[.int .i64 1, .int .i64 0, .slice none 0 0], rfl, kty0 _ _ _, fun i u hu => by match i, hu with | 0, hu => exact hu | 1, hu => exact hu | 2, hu => exact hu⟩
    · have HU : listed.getD 21 true = false := hu21 (by omega)
      refine wpOpIn_step rfl (fun K hK => ?_)
      have t0 := hI.t0
      have t1 := hI.t1
      have t2 := hI.t2
      simp only at t0 t1 t2
      go_simp
      exact hK _ _ (hI.put hls (i := 4) (by omega) (Below.refl _ _) rfl HU)
    · have HU : listed.getD 21 true = false := hu21 (by omega)
      refine wpOpIn_step rfl (fun K hK => ?_)
      have t0 := hI.t0
      have t1 := hI.t1
      have t2 := hI.t2
      have hb0 : w.heap.size < w2.heap.size := hI.x0.choose_spec.1.lt
      simp only at t0 t1 t2
      have p1 : tmps.getD 8 undef = .agg #[.int .i64 1, .int .i64 0, .int .i64 0, .int .i64 0, .int .i64 1, nilS, nilS] := hI.ph 4 (by omega) (hb ⟨4, .data⟩ (by simp) rfl)
      unfold nilS at p1
      rw [Array.getD_eq_getD_getElem?] at p1
      go_simp
      refine hK _ _ (hI.put hls (i := 5) (by omega) (Bl.alloc (Below.refl _ _) _) (rsl_new _ _ _ _ [exI] 1 hb0 rfl (by simp [maxLen]) ?_) HU)
      intro j x hj
      match j, hj with
      | 0, hj =>
        obtain rfl : exI = x := by simpa using hj
        exact ⟨[.int .i64 1, .int .i64 0, .int .i64 0, .int .i64 0, .int .i64 1, .slice none 0 0, .slice none 0 0], rfl, ⟨.slice none 0 0, .slice none 0 0, rfl, RSl.nil _ _ _, RSl.nil _ _ _⟩, fun i u hu => by match i, hu with | 0, hu => exact hu | 1, hu => exact hu | 2, hu => exact hu | 3, hu => exact hu | 4, hu => exact hu | 5, hu => exact hu | 6, hu => exact hu⟩
    · have HU : listed.getD 21 true = false := hu21 (by omega)
      refine wpOpIn_step rfl (fun K hK => ?_)
      have t0 := hI.t0
      have t1 := hI.t1
      have t2 := hI.t2
      have hb0 : w.heap.size < w2.heap.size := hI.x0.choose_spec.1.lt
      simp only at t0 t1 t2
      go_simp
      refine hK _ _ (hI.put hls (i := 6) (by omega) (Bl.alloc (Below.refl _ _) _) (rsl_new _ _ _ _ [1, 2] 2 hb0 rfl (by simp [maxLen]) ?_) HU)
      intro j x hj
      match j, hj with
      | 0, hj =>
        obtain rfl : (1 : Int) = x := by simpa using hj
        exact ⟨[.int .i64 1], rfl, rfl, fun i u hu => by match i, hu with | 0, hu => exact hu⟩
      | 1, hj =>
        obtain rfl : (2 : Int) = x := by simpa using hj
        exact ⟨[.int .i64 2], rfl, rfl, fun i u hu => by match i, hu with | 0, hu => exact hu⟩
    · have HU : listed.getD 21 true = false := hu21 (by omega)
      refine wpOpIn_step rfl (fun K hK => ?_)
      have t0 := hI.t0
      have t1 := hI.t1
      have t2 := hI.t2
      have hb0 : w.heap.size < w2.heap.size := hI.x0.choose_spec.1.lt
      simp only at t0 t1 t2
      have p6 : Ph (look [w.heap.size] w2) 6 (tmps.getD 10 undef) := hI.ph 6 (by omega) (hb ⟨6, .data⟩ (by simp) rfl)
      obtain ⟨A6, k6, e6, _⟩ := id p6
      simp only [List.length_cons, List.length_nil, Nat.zero_add, Nat.reduceAdd] at e6
      have pp6 := p6
      rw [e6] at pp6
      rw [Array.getD_eq_getD_getElem?] at e6
      go_simp
      exact hK _ _ (hI.put hls (i := 7) (by omega) (Below.refl _ _) ⟨_, rfl, pp6⟩ HU)
    · have HU : listed.getD 21 true = false := hu21 (by omega)
      refine wpOpIn_step rfl (fun K hK => ?_)
      have t0 := hI.t0
      have t1 := hI.t1
      have t2 := hI.t2
      have hb0 : w.heap.size < w2.heap.size := hI.x0.choose_spec.1.lt
      simp only at t0 t1 t2
      have p5 : Ph (look [w.heap.size] w2) 5 (tmps.getD 9 undef) := hI.ph 5 (by omega) (hb ⟨5, .data⟩ (by simp) rfl)
      obtain ⟨A5, k5, e5, _⟩ := id p5
      simp only [List.length_cons, List.length_nil, Nat.zero_add, Nat.reduceAdd] at e5
      have pp5 := p5
      rw [e5] at pp5
      rw [Array.getD_eq_getD_getElem?] at e5
      have p7 : Ph (look [w.heap.size] w2) 7 (tmps.getD 11 undef) := hI.ph 7 (by omega) (hb ⟨7, .data⟩ (by simp) rfl)
      obtain ⟨v7, e7, p7⟩ := p7
      obtain ⟨A7, k7, rfl, _⟩ := id p7
      simp only [List.length_cons, List.length_nil, Nat.zero_add, Nat.reduceAdd] at e7 p7
      rw [Array.getD_eq_getD_getElem?] at e7
      go_simp
      exact hK _ _ (hI.put hls (i := 8) (by omega) (Below.refl _ _) ⟨_, _, rfl, pp5, p7⟩ HU)
    · have HU : listed.getD 21 true = false := hu21 (by omega)
      refine wpOpIn_step rfl (fun K hK => ?_)
      have t0 := hI.t0
      have t1 := hI.t1
      have t2 := hI.t2
      simp only at t0 t1 t2
      go_simp
      exact hK _ _ (hI.put hls (i := 9) (by omega) (Below.refl _ _) rfl HU)
    · have HU : listed.getD 21 true = false := hu21 (by omega)
      refine wpOpIn_step rfl (fun K hK => ?_)
      have t0 := hI.t0
      have t1 := hI.t1
      have t2 := hI.t2
      have hb0 : w.heap.size < w2.heap.size := hI.x0.choose_spec.1.lt
      simp only at t0 t1 t2
      have p1 : tmps.getD 13 undef = .agg #[.int .i64 1, .int .i64 1, .int .i64 0, .int .i64 0, .int .i64 0, nilS, nilS] := hI.ph 9 (by omega) (hb ⟨9, .data⟩ (by simp) rfl)
      unfold nilS at p1
      rw [Array.getD_eq_getD_getElem?] at p1
      go_simp
      refine hK _ _ (hI.put hls (i := 10) (by omega) (Bl.alloc (Below.refl _ _) _) (rsl_new _ _ _ _ [exJ] 1 hb0 rfl (by simp [maxLen]) ?_) HU)
      intro j x hj
      match j, hj with
      | 0, hj =>
        obtain rfl : exJ = x := by simpa using hj
        exact ⟨[.int .i64 1, .int .i64 1, .int .i64 0, .int .i64 0, .int .i64 0, .slice none 0 0, .slice none 0 0], rfl, ⟨.slice none 0 0, .slice none 0 0, rfl, RSl.nil _ _ _, RSl.nil _ _ _⟩, fun i u hu => by match i, hu with | 0, hu => exact hu | 1, hu => exact hu | 2, hu => exact hu | 3, hu => exact hu | 4, hu => exact hu | 5, hu => exact hu | 6, hu => exact hu⟩
    · have HU : listed.getD 21 true = false := hu21 (by omega)
      refine wpOpIn_step rfl (fun K hK => ?_)
      have t0 := hI.t0
      have t1 := hI.t1
      have t2 := hI.t2
      simp only at t0 t1 t2
      have x1 := hI.x1.cell
      unfold nilS at x1
      go_simp
      exact hK _ _ (hI.put hls (i := 11) (by omega) (Below.refl _ _) rfl HU)
    · have HU : listed.getD 21 true = false := hu21 (by omega)
      refine wpOpIn_step rfl (fun K hK => ?_)
      have t0 := hI.t0
      have t1 := hI.t1
      have t2 := hI.t2
      have hb0 : w.heap.size < w2.heap.size := hI.x0.choose_spec.1.lt
      simp only at t0 t1 t2
      have p1 : tmps.getD 15 undef = .func (.func 42) #[] #[] := hI.ph 11 (by omega) (hb ⟨11, .data⟩ (by simp) rfl)
      unfold nilS at p1
      rw [Array.getD_eq_getD_getElem?] at p1
      have hen : ∀ args w, (callFunc 42 args).run Tryz.prog w = .ok (.enter 42 args) w := enter_of Tryz.func42 (by kernel_rfl) rfl
      go_simp
      refine ⟨trivial, ?_⟩
      refine (callsIn_wide.2 (jump_any 3 w2)).mono ?_
      rintro e w3 ⟨⟨rfl, hc3⟩, hb3⟩
      exact hK _ _ (hI.put hls (i := 12) (by omega) hb3 ⟨_, rfl, rints_one hc3 (by omega)⟩ HU)
    · have HU : listed.getD 21 true = false := hu21 (by omega)
      refine wpOpIn_step rfl (fun K hK => ?_)
      have t0 := hI.t0
      have t1 := hI.t1
      have t2 := hI.t2
      have hb0 : w.heap.size < w2.heap.size := hI.x0.choose_spec.1.lt
      simp only at t0 t1 t2
      have p5 : Ph (look [w.heap.size] w2) 10 (tmps.getD 14 undef) := hI.ph 10 (by omega) (hb ⟨10, .data⟩ (by simp) rfl)
      obtain ⟨A5, k5, e5, _⟩ := id p5
      simp only [List.length_cons, List.length_nil, Nat.zero_add, Nat.reduceAdd] at e5
      have pp5 := p5
      rw [e5] at pp5
      rw [Array.getD_eq_getD_getElem?] at e5
      have p7 : Ph (look [w.heap.size] w2) 12 (tmps.getD 16 undef) := hI.ph 12 (by omega) (hb ⟨12, .data⟩ (by simp) rfl)
      obtain ⟨v7, e7, p7⟩ := p7
      obtain ⟨A7, k7, rfl, _⟩ := id p7
      simp only [List.length_cons, List.length_nil, Nat.zero_add, Nat.reduceAdd] at e7 p7
      rw [Array.getD_eq_getD_getElem?] at e7
      go_simp
      exact hK _ _ (hI.put hls (i := 13) (by omega) (Below.refl _ _) ⟨_, _, rfl, pp5, p7⟩ HU)
    · have HU : listed.getD 21 true = false := hu21 (by omega)
      refine wpOpIn_step rfl (fun K hK => ?_)
      have t0 := hI.t0
      have t1 := hI.t1
      have t2 := hI.t2
      simp only at t0 t1 t2
      have x1 := hI.x1.cell
      unfold nilS at x1
      go_simp
      exact hK _ _ (hI.put hls (i := 14) (by omega) (Below.refl _ _) rfl HU)
    · have HU : listed.getD 21 true = false := hu21 (by omega)
      refine wpOpIn_step rfl (fun K hK => ?_)
      have t0 := hI.t0
      have t1 := hI.t1
      have t2 := hI.t2
      have hb0 : w.heap.size < w2.heap.size := hI.x0.choose_spec.1.lt
      simp only at t0 t1 t2
      have p1 : tmps.getD 18 undef = .func (.func 42) #[] #[] := hI.ph 14 (by omega) (hb ⟨14, .data⟩ (by simp) rfl)
      unfold nilS at p1
      rw [Array.getD_eq_getD_getElem?] at p1
      have hen : ∀ args w, (callFunc 42 args).run Tryz.prog w = .ok (.enter 42 args) w := enter_of Tryz.func42 (by kernel_rfl) rfl
      go_simp
      refine ⟨trivial, ?_⟩
      refine (callsIn_wide.2 (jump_any 3 w2)).mono ?_
      rintro e w3 ⟨⟨rfl, hc3⟩, hb3⟩
      exact hK _ _ (hI.put hls (i := 15) (by omega) hb3 ⟨_, rfl, rints_one hc3 (by omega)⟩ HU)
    · have HU : listed.getD 21 true = false := hu21 (by omega)
      refine wpOpIn_step rfl (fun K hK => ?_)
      have t0 := hI.t0
      have t1 := hI.t1
      have t2 := hI.t2
      have hb0 : w.heap.size < w2.heap.size := hI.x0.choose_spec.1.lt
      simp only at t0 t1 t2
      have p7 : Ph (look [w.heap.size] w2) 15 (tmps.getD 19 undef) := hI.ph 15 (by omega) (hb ⟨15, .data⟩ (by simp) rfl)
      obtain ⟨v7, e7, p7⟩ := p7
      obtain ⟨A7, k7, rfl, _⟩ := id p7
      simp only [List.length_cons, List.length_nil, Nat.zero_add, Nat.reduceAdd] at e7 p7
      rw [Array.getD_eq_getD_getElem?] at e7
      go_simp
      exact hK _ _ (hI.put hls (i := 16) (by omega) (Below.refl _ _) ⟨_, _, rfl, RSl.nil _ _ _, p7⟩ HU)
    · have HU : listed.getD 21 true = false := hu21 (by omega)
      refine wpOpIn_step rfl (fun K hK => ?_)
      have t0 := hI.t0
      have t1 := hI.t1
      have t2 := hI.t2
      simp only at t0 t1 t2
      go_simp
      exact hK _ _ (hI.put hls (i := 17) (by omega) (Below.refl _ _) rfl HU)
    · have HU : listed.getD 21 true = false := hu21 (by omega)
      refine wpOpIn_step rfl (fun K hK => ?_)
      have t0 := hI.t0
      have t1 := hI.t1
      have t2 := hI.t2
      have hb0 : w.heap.size < w2.heap.size := hI.x0.choose_spec.1.lt
      simp only at t0 t1 t2
      have p1 : tmps.getD 21 undef = .agg #[.int .i64 4, .int .i64 0, nilS] := hI.ph 17 (by omega) (hb ⟨17, .data⟩ (by simp) rfl)
      unfold nilS at p1
      rw [Array.getD_eq_getD_getElem?] at p1
      go_simp
      exact hK _ _ (hI.put hls (i := 18) (by omega) (Below.refl _ _) ⟨_, _, rfl, RSl.nil _ _ _, RSl.nil _ _ _⟩ HU)
    · have HU : listed.getD 21 true = false := hu21 (by omega)
      refine wpOpIn_step rfl (fun K hK => ?_)
      have t0 := hI.t0
      have t1 := hI.t1
      have t2 := hI.t2
      have hb0 : w.heap.size < w2.heap.size := hI.x0.choose_spec.1.lt
      simp only at t0 t1 t2
      have pa : Ph (look [w.heap.size] w2) 8 (tmps.getD 12 undef) := hI.ph 8 (by omega) (hb ⟨8, .data⟩ (by simp) rfl)
      obtain ⟨vca, vta, ea, pca, pta⟩ := pa
      obtain ⟨Aca, kca, rfl, _⟩ := id pca
      obtain ⟨Ata, kta, rfl, _⟩ := id pta
      rw [Array.getD_eq_getD_getElem?] at ea
      simp only [exB0, exB1, exB2, exB3, List.length_cons, List.length_nil, Nat.zero_add, Nat.reduceAdd] at ea pca pta
      have pb : Ph (look [w.heap.size] w2) 13 (tmps.getD 17 undef) := hI.ph 13 (by omega) (hb ⟨13, .data⟩ (by simp) rfl)
      obtain ⟨vcb, vtb, eb, pcb, ptb⟩ := pb
      obtain ⟨Acb, kcb, rfl, _⟩ := id pcb
      obtain ⟨Atb, ktb, rfl, _⟩ := id ptb
      rw [Array.getD_eq_getD_getElem?] at eb
      simp only [exB0, exB1, exB2, exB3, List.length_cons, List.length_nil, Nat.zero_add, Nat.reduceAdd] at eb pcb ptb
      have pc : Ph (look [w.heap.size] w2) 16 (tmps.getD 20 undef) := hI.ph 16 (by omega) (hb ⟨16, .data⟩ (by simp) rfl)
      obtain ⟨vcc, vtc, ec, pcc, ptc⟩ := pc
      obtain ⟨Acc, kcc, rfl, _⟩ := id pcc
      obtain ⟨Atc, ktc, rfl, _⟩ := id ptc
      rw [Array.getD_eq_getD_getElem?] at ec
      simp only [exB0, exB1, exB2, exB3, List.length_cons, List.length_nil, Nat.zero_add, Nat.reduceAdd] at ec pcc ptc
      have pd : Ph (look [w.heap.size] w2) 18 (tmps.getD 22 undef) := hI.ph 18 (by omega) (hb ⟨18, .data⟩ (by simp) rfl)
      obtain ⟨vcd, vtd, ed, pcd, ptd⟩ := pd
      obtain ⟨Acd, kcd, rfl, _⟩ := id pcd
      obtain ⟨Atd, ktd, rfl, _⟩ := id ptd
      rw [Array.getD_eq_getD_getElem?] at ed
      simp only [exB0, exB1, exB2, exB3, List.length_cons, List.length_nil, Nat.zero_add, Nat.reduceAdd] at ed pcd ptd
      go_simp
      have hle : ∀ {o : Obj}, Le (look [w.heap.size] w2) (look [w.heap.size] (w2.alloc o)) := fun {o} => (Chg.alloc [w.heap.size] w2 o).le
      refine hK _ _ (hI.put hls (i := 19) (by omega) (Bl.alloc (Below.refl _ _) _) (rsl_new _ _ _ _ [exB0, exB1, exB2, exB3] 4 hb0 rfl (by simp [maxLen]) ?_) HU)
      intro j x hj
      match j, hj with
      | 0, hj =>
        obtain rfl : exB0 = x := by simpa using hj
        exact ⟨[_, _, _, _], rfl, ⟨_, _, rfl, RSl.mono monoIns hle pca, RSl.mono monoInt hle pta⟩, fun i u hu => by match i, hu with | 0, hu => exact hu | 1, hu => exact hu | 2, hu => exact hu | 3, hu => exact hu⟩
      | 1, hj =>
        obtain rfl : exB1 = x := by simpa using hj
        exact ⟨[_, _, _, _], rfl, ⟨_, _, rfl, RSl.mono monoIns hle pcb, RSl.mono monoInt hle ptb⟩, fun i u hu => by match i, hu with | 0, hu => exact hu | 1, hu => exact hu | 2, hu => exact hu | 3, hu => exact hu⟩
      | 2, hj =>
        obtain rfl : exB2 = x := by simpa using hj
        exact ⟨[_, _, _, _], rfl, ⟨_, _, rfl, RSl.mono monoIns hle pcc, RSl.mono monoInt hle ptc⟩, fun i u hu => by match i, hu with | 0, hu => exact hu | 1, hu => exact hu | 2, hu => exact hu | 3, hu => exact hu⟩
      | 3, hj =>
        obtain rfl : exB3 = x := by simpa using hj
        exact ⟨[_, _, _, _], rfl, ⟨_, _, rfl, RSl.mono monoIns hle pcd, RSl.mono monoInt hle ptd⟩, fun i u hu => by match i, hu with | 0, hu => exact hu | 1, hu => exact hu | 2, hu => exact hu | 3, hu => exact hu⟩
    · have HU : listed.getD 21 true = false := hu21 (by omega)
      refine wpOpIn_step rfl (fun K hK => ?_)
      have t0 := hI.t0
      have t1 := hI.t1
      have t2 := hI.t2
      have hb0 : w.heap.size < w2.heap.size := hI.x0.choose_spec.1.lt
      simp only at t0 t1 t2
      have p0 : tmps.getD 4 undef = .agg #[.int .i64 1, .int .i64 0, nilS] := hI.ph 0 (by omega) (hb ⟨0, .data⟩ (by simp) rfl)
      unfold nilS at p0
      rw [Array.getD_eq_getD_getElem?] at p0
      have p3 : Ph (look [w.heap.size] w2) 3 (tmps.getD 7 undef) := hI.ph 3 (by omega) (hb ⟨3, .data⟩ (by simp) rfl)
      obtain ⟨A3, k3, e3, _⟩ := id p3
      simp only [List.length_cons, List.length_nil, Nat.zero_add, Nat.reduceAdd] at e3
      have pp3 := p3
      rw [e3] at pp3
      rw [Array.getD_eq_getD_getElem?] at e3
      have p19 : Ph (look [w.heap.size] w2) 19 (tmps.getD 23 undef) := hI.ph 19 (by omega) (hb ⟨19, .data⟩ (by simp) rfl)
      obtain ⟨A19, k19, e19, _⟩ := id p19
      simp only [List.length_cons, List.length_nil, Nat.zero_add, Nat.reduceAdd] at e19
      have pp19 := p19
      rw [e19] at pp19
      rw [Array.getD_eq_getD_getElem?] at e19
      go_simp
      exact hK _ _ (hI.put hls (i := 20) (by omega) (Below.refl _ _) ⟨0, 0, 0, nilS, .slice none 0 0, _, _, nilS, none, none, 0, 0, 0, 0, rfl, rfl, rfl, by simp, by simp, RSl.nil _ _ _, pp3, pp19⟩ HU)
    · skip
      refine wpOpIn_step rfl (fun K hK => ?_)
      have t0 := hI.t0
      have t1 := hI.t1
      have t2 := hI.t2
      have hb0 : w.heap.size < w2.heap.size := hI.x0.choose_spec.1.lt
      simp only at t0 t1 t2
      have p20 : Ph (look [w.heap.size] w2) 20 (tmps.getD 24 undef) := hI.ph 20 (by omega) (hb ⟨20, .data⟩ (by simp) rfl)
      obtain ⟨mo, pa, ar, vb, vr, vl, vk, vt, Ab, At, nb, cb, nt, ct, ev, rfl, rfl, m1, m2, q1, q2, q3⟩ := p20
      have HQ := Lib.hid (And.intro q1 (And.intro q2 q3))
      obtain ⟨Ar, kr, rfl, _⟩ := id q1
      obtain ⟨Al, kl, rfl, _⟩ := id q2
      obtain ⟨Ak, kk, rfl, _⟩ := id q3
      rw [Array.getD_eq_getD_getElem?] at ev
      obtain ⟨cs, hx, hz2, _⟩ := id hI.x0
      have hl21 : listed.getD 21 false = false := by
        have hlt : 21 < listed.size := by omega
        simpa [Array.getD, hlt] using hl
      have hcs := hz2 hl21
      subst hcs
      have cz := hx.cell
      have fz := hx.frozen
      unfold exZ at cz
      have HX := Lib.hid hx
      clear q1 q2 q3 hx hz2
      go_simp
      obtain ⟨hch, hx11⟩ := sets11 HX.out (.string exF.name) (.int .i64 mo) (.int .i64 pa) (.slice Ab nb cb) (.int .i64 ar) (.int .i64 exF.result.kind) (.int .i64 exF.result.id) (.slice Ar exF.result.args.length kr) (.slice Al exF.locals.length kl) (.slice Ak exF.blocks.length kk) (.slice At nt ct)
      refine hK _ _ (hI.store hls hch hx11 ?_ (fun j hj => hb ⟨j, .phase⟩ (by
        obtain rfl | rfl | rfl | rfl | rfl | rfl | rfl | rfl | rfl | rfl | rfl | rfl | rfl | rfl | rfl | rfl | rfl | rfl | rfl | rfl | rfl : j = 0 ∨ j = 1 ∨ j = 2 ∨ j = 3 ∨ j = 4 ∨ j = 5 ∨ j = 6 ∨ j = 7 ∨ j = 8 ∨ j = 9 ∨ j = 10 ∨ j = 11 ∨ j = 12 ∨ j = 13 ∨ j = 14 ∨ j = 15 ∨ j = 16 ∨ j = 17 ∨ j = 18 ∨ j = 19 ∨ j = 20 := by omega
        all_goals simp) rfl))
      have hq : RFn (look [w.heap.size] w2) (.agg #[.string exF.name, .int .i64 mo, .int .i64 pa, .slice Ab nb cb, .int .i64 ar, .int .i64 exF.result.kind, .int .i64 exF.result.id, .slice Ar exF.result.args.length kr, .slice Al exF.locals.length kl, .slice Ak exF.blocks.length kk, .slice At nt ct]) exF :=
        ⟨mo, pa, ar, _, _, _, _, _, Ab, At, nb, cb, nt, ct, rfl, rfl, rfl, m1, m2, HQ.out.1, HQ.out.2.1, HQ.out.2.2⟩
      exact hq.mono (Chg.le hch)
end Go.Proofs.YtdkjkgokllmkmaaGreatDoor.Lv
