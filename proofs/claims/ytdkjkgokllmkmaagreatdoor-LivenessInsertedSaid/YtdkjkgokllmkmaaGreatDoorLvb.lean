/- Words of the walks: what lies in memory reads as data (over a lookup of cells), and what a step of the world keeps. -/
import Derived.Test.YtdkjkgokllmkmaaGreatDoorLva
import Derived.Test.YtdkjkgokllmkmaaGreatDoorProg
import Derived.WalkKit
import Derived.KernelRfl
import Derived.Maps.AppendAt
import Derived.Deep.LoopGhost
import Derived.Deep.QuietTactic
import Derived.BigQuiet
import Derived.Deep.RegionHeld3
import Derived.Lib.Hide
import Derived.StillTailTactics
import Derived.Deep.AppendLies
import Derived.Deep.RegionLaw
namespace Go.Proofs.YtdkjkgokllmkmaaGreatDoor.Lv
open Go.RowKit
set_option linter.unusedVariables false
set_option linter.unusedSimpArgs false

/-! ### Lookups -/
abbrev Lk := Addr → Option Value
def Le (c c' : Lk) : Prop := ∀ a v, c a = some v → c' a = some v
theorem Le.refl (c : Lk) : Le c c := fun _ _ h => h
theorem Le.trans {a b c : Lk} (h : Le a b) (k : Le b c) : Le a c := fun x v e => k x v (h x v e)
/-- The cells outside of the blocks D. -/
def look (D : List Nat) (w : World) : Lk := fun a => if a.block ∈ D then none else w.cell? a
theorem look_le (D : List Nat) (w : World) : Le (look D w) w.cell? := by
  intro a v h
  unfold look at h
  split at h
  · cases h
  · exact h

/-! ### What a step keeps: all but the blocks D and what is new -/
structure Chg (D : List Nat) (w w' : World) : Prop where
  os : w'.os = w.os
  tape : w'.tape = w.tape
  output : w'.output = w.output
  size : w.heap.size ≤ w'.heap.size
  block : ∀ k, k < w.heap.size → k ∉ D → w'.heap[k]? = w.heap[k]?
theorem Chg.refl (D : List Nat) (w : World) : Chg D w w := ⟨rfl, rfl, rfl, Nat.le_refl _, fun _ _ _ => rfl⟩
theorem Chg.trans {D : List Nat} {a b c : World} (h : Chg D a b) (k : Chg D b c) : Chg D a c :=
  ⟨k.os.trans h.os, k.tape.trans h.tape, k.output.trans h.output, Nat.le_trans h.size k.size, fun i hi hd => (k.block i (Nat.lt_of_lt_of_le hi h.size) hd).trans (h.block i hi hd)⟩
/-- Fewer blocks: those that go are new. -/
theorem Chg.fewer {D D' : List Nat} {a b : World} (h : Chg D a b) (hd : ∀ k, k ∈ D → k < a.heap.size → k ∈ D') : Chg D' a b :=
  ⟨h.os, h.tape, h.output, h.size, fun i hi hn => h.block i hi (fun hm => hn (hd i hm hi))⟩
theorem Chg.of_below {w w' : World} (h : Below w.heap.size w w') (D : List Nat) : Chg D w w' := ⟨h.os, h.tape, h.output, h.size, fun k hk _ => h.block k hk⟩
theorem Chg.below {w w' : World} (h : Chg [] w w') : Below w.heap.size w w' := ⟨h.os, h.tape, h.output, h.size, fun k hk => h.block k hk (by simp)⟩
theorem Chg.nil {D : List Nat} {w w' : World} (h : Chg [] w w') : Chg D w w' := h.fewer (fun _ hk _ => by cases hk)
theorem Chg.drew (D : List Nat) (w : World) : Chg D w w.drew := ⟨rfl, rfl, rfl, Nat.le_refl _, fun _ _ _ => rfl⟩
theorem heap_drewN (w : World) (n : Nat) : (w.drewN n).heap = w.heap := rfl
theorem Chg.drewN (D : List Nat) (w : World) (n : Nat) : Chg D w (w.drewN n) := ⟨rfl, rfl, rfl, Nat.le_refl _, fun _ _ _ => rfl⟩
theorem Chg.alloc (D : List Nat) (w : World) (o : Obj) : Chg D w (w.alloc o) := ⟨rfl, rfl, rfl, by simp, fun k hk _ => Below.heap_alloc _ _ _ hk⟩
theorem Chg.setCell {D : List Nat} (w : World) {p : Addr} (hp : p.block ∈ D) (u : Value) : Chg D w (w.setCell p u) :=
  ⟨rfl, rfl, rfl, by simp [World.setCell], fun k _ hd => Below.heap_setCell _ _ _ _ (fun e => hd (e ▸ hp))⟩
theorem Chg.grown {D : List Nat} {w w' : World} {row : Option Nat} (hg : w.grownBy w' row) (hr : ∀ k, row = some k → k ∈ D) : Chg D w w' :=
  ⟨hg.os, hg.tape, hg.output, hg.size, fun k hk hd => hg.block k hk (fun e => hd (hr k e.symm))⟩
/-- A step that turns blocks of D, or new ones. -/
theorem Chg.grow {D : List Nat} {W w w' : World} (h : Chg D W w) {row : Option Nat} (hg : w.grownBy w' row) (hr : ∀ k, row = some k → k ∈ D ∨ W.heap.size ≤ k) : Chg D W w' :=
  ⟨hg.os.trans h.os, hg.tape.trans h.tape, hg.output.trans h.output, Nat.le_trans h.size hg.size, fun k hk hd => (hg.block k (Nat.lt_of_lt_of_le hk h.size) (fun e => by
    rcases hr k e.symm with h1 | h1
    · exact hd h1
    · omega)).trans (h.block k hk hd)⟩
theorem Chg.put {D : List Nat} {W w : World} (h : Chg D W w) {p : Addr} (hp : p.block ∈ D ∨ W.heap.size ≤ p.block) (u : Value) : Chg D W (w.setCell p u) :=
  h.grow (row := some p.block) ⟨rfl, rfl, rfl, by simp [World.setCell], fun k _ hk => Below.heap_setCell _ _ _ _ (fun e => hk (by rw [e]))⟩ (fun k e => by injection e with e; exact e ▸ hp)
theorem Chg.call {D : List Nat} {W w w' : World} (h : Chg D W w) (hb : Below w.heap.size w w') : Chg D W w' := h.trans (Chg.of_below hb _)
theorem Chg.le {D : List Nat} {w w' : World} (h : Chg D w w') : Le (look D w) (look D w') := by
  intro a v e
  unfold look at e ⊢
  split at e
  · cases e
  · rename_i hn
    rw [if_neg hn]
    have hb := World.block_lt_of_cell? w a e
    have := h.block a.block hb hn
    simpa [World.cell?, this] using e
theorem Chg.le' {D : List Nat} {w w' : World} (h : Chg D w w') : Le (look D w) w'.cell? := h.le.trans (look_le _ _)
theorem Chg.cell {D : List Nat} {w w' : World} (h : Chg D w w') {a : Addr} {v : Value} (hd : a.block ∉ D) (e : w.cell? a = some v) : w'.cell? a = some v := by
  have hb := World.block_lt_of_cell? w a e
  simpa [World.cell?, h.block a.block hb hd] using e
theorem Chg.le0 {w w' : World} (h : Chg [] w w') : Le w.cell? w'.cell? := fun _ _ e => h.cell (by simp) e
theorem look_new {w : World} {D D' : List Nat} (hd : ∀ k, k ∈ D' → k < w.heap.size → k ∈ D) : Le (look D w) (look D' w) := by
  intro a v e
  unfold look at e ⊢
  split at e
  · cases e
  · rename_i hn
    have hb := World.block_lt_of_cell? w a e
    rw [if_neg (fun hm => hn (hd _ hm hb))]
    exact e
theorem cell_look {D : List Nat} {w : World} {a : Addr} {v : Value} (hd : a.block ∉ D) (e : w.cell? a = some v) : look D w a = some v := by
  unfold look
  rw [if_neg hd]
  exact e

/-! ### The call's own frame: nothing that lay there when it began has turned -/
theorem Bl.alloc {w W : World} (h : Below w.heap.size w W) (o : Obj) : Below w.heap.size w (W.alloc o) := h.alloc h.size o
theorem Bl.drew {w W : World} (h : Below w.heap.size w W) : Below w.heap.size w W.drew := ⟨h.os, h.tape, h.output, h.size, h.block⟩
theorem Bl.drewN {w W : World} (h : Below w.heap.size w W) (n : Nat) : Below w.heap.size w (W.drewN n) := ⟨h.os, h.tape, h.output, h.size, h.block⟩
theorem Bl.set {w W : World} (h : Below w.heap.size w W) {p : Addr} (hp : w.heap.size ≤ p.block) (u : Value) : Below w.heap.size w (W.setCell p u) := h.setCell hp u
theorem Bl.call {w W W' : World} (h : Below w.heap.size w W) (k : Below W.heap.size W W') : Below w.heap.size w W' := h.trans (k.mono h.size)
theorem Bl.chg {D : List Nat} {w W W' : World} (h : Below w.heap.size w W) (k : Chg D W W') (hd : ∀ i, i ∈ D → w.heap.size ≤ i) : Below w.heap.size w W' :=
  h.trans ⟨k.os, k.tape, k.output, k.size, fun i hi => k.block i (Nat.lt_of_lt_of_le hi h.size) (fun hm => by have := hd i hm; omega)⟩
theorem Bl.le {w W : World} (h : Below w.heap.size w W) : Le w.cell? W.cell? := (Chg.of_below h []).le0

theorem bcell {W w1 : World} (hb : Below W.heap.size W w1) : (∀ b o, b < W.heap.size → w1.cell? ⟨b, o, none⟩ = W.cell? ⟨b, o, none⟩) ∧ (∀ b o, b < W.heap.size → w1.frozen? ⟨b, o, none⟩ = W.frozen? ⟨b, o, none⟩) :=
  ⟨fun b o h => hb.cell (p := ⟨b, o, none⟩) h, fun b o h => hb.frozen (p := ⟨b, o, none⟩) h⟩

/-! ### Rows of elements -/
def RRow {α : Type} (K : Lk → α → List Value → Prop) (sz : Nat) (c : Lk) (A : Option Addr) (xs : List α) : Prop :=
  ∀ j x, xs[j]? = some x → ∃ ad es, A = some ad ∧ es.length = sz ∧ K c x es ∧ ∀ i u, es[i]? = some u → c (ad.add (j * sz + i)) = some u
def RSl {α : Type} (K : Lk → α → List Value → Prop) (sz : Nat) (c : Lk) (v : Value) (xs : List α) : Prop :=
  ∃ A k, v = .slice A xs.length k ∧ xs.length ≤ k ∧ k ≤ maxLen ∧ RRow K sz c A xs
def MonoK {α : Type} (K : Lk → α → List Value → Prop) : Prop := ∀ c c' x es, Le c c' → K c x es → K c' x es
theorem RRow.mono {α : Type} {K : Lk → α → List Value → Prop} {sz : Nat} {c c' : Lk} {A : Option Addr} {xs : List α} (hK : MonoK K) (hc : Le c c') (h : RRow K sz c A xs) : RRow K sz c' A xs := by
  intro j x hj
  obtain ⟨ad, es, h1, h2, h3, h4⟩ := h j x hj
  exact ⟨ad, es, h1, h2, hK _ _ _ _ hc h3, fun i u hu => hc _ _ (h4 i u hu)⟩
theorem RSl.mono {α : Type} {K : Lk → α → List Value → Prop} {sz : Nat} {c c' : Lk} {v : Value} {xs : List α} (hK : MonoK K) (hc : Le c c') (h : RSl K sz c v xs) : RSl K sz c' v xs := by
  obtain ⟨A, k, h1, h2, h3, h4⟩ := h
  exact ⟨A, k, h1, h2, h3, h4.mono hK hc⟩
def KInt (_ : Lk) (x : Int) (es : List Value) : Prop := es = [.int .i64 x]
def KBool (_ : Lk) (x : Bool) (es : List Value) : Prop := es = [.bool x]
def KSl {α : Type} (K : Lk → α → List Value → Prop) (sz : Nat) (c : Lk) (xs : List α) (es : List Value) : Prop := ∃ v, es = [v] ∧ RSl K sz c v xs
theorem monoInt : MonoK KInt := fun _ _ _ _ _ h => h
theorem monoBool : MonoK KBool := fun _ _ _ _ _ h => h
theorem monoSl {α : Type} {K : Lk → α → List Value → Prop} {sz : Nat} (hK : MonoK K) : MonoK (KSl K sz) := by
  rintro c c' x es hc ⟨v, rfl, h⟩
  exact ⟨v, rfl, h.mono hK hc⟩
/-- A type: its cells are its kind, its number, its arguments. -/
inductive KTy (c : Lk) : Ty → List Value → Prop
  | mk (k i : Int) (args : List Ty) (A : Option Addr) (cap : Nat) (ad : Addr) (E : Nat → List Value) (hcap : args.length ≤ cap) (hmax : cap ≤ maxLen) (hA : 0 < args.length → A = some ad)
      (hl : ∀ j, j < args.length → (E j).length = 3) (hE : ∀ j x, args[j]? = some x → KTy c x (E j)) (hc : ∀ j i u, j < args.length → (E j)[i]? = some u → c (ad.add (j * 3 + i)) = some u) :
      KTy c (.mk k i args) [.int .i64 k, .int .i64 i, .slice A args.length cap]
theorem monoTy : MonoK KTy := by
  intro c c' x es hc h
  induction h with
  | mk k i args A cap ad E h1 h2 h3 h4 h5 h6 ih => exact .mk k i args A cap ad E h1 h2 h3 h4 ih (fun j i u hj hu => hc _ _ (h6 j i u hj hu))
theorem KTy.open {c : Lk} {t : Ty} {es : List Value} (h : KTy c t es) : ∃ v, es = [.int .i64 t.kind, .int .i64 t.id, v] ∧ RSl KTy 3 c v t.args := by
  cases h with
  | mk k i args A cap ad E h1 h2 h3 h4 h5 h6 =>
    refine ⟨_, rfl, A, cap, rfl, h1, h2, fun j x hj => ?_⟩
    have hl := (List.getElem?_eq_some_iff.1 hj).1
    exact ⟨ad, E j, h3 (by simp only [Ty.args] at hl; omega), h4 j hl, h5 j x hj, fun i u hu => h6 j i u hl hu⟩
def KIns (c : Lk) (x : Ins) (es : List Value) : Prop :=
  ∃ va vt, es = [.int .i64 x.op, .int .i64 x.dst, .int .i64 x.a, .int .i64 x.b, .int .i64 x.n, va, vt] ∧ RSl KInt 1 c va x.args ∧ RSl KTy 3 c vt x.types
theorem monoIns : MonoK KIns := by
  rintro c c' x es hc ⟨va, vt, rfl, h1, h2⟩
  exact ⟨va, vt, rfl, h1.mono monoInt hc, h2.mono monoTy hc⟩
def KTerm (c : Lk) (x : Term) (es : List Value) : Prop := ∃ v, es = [.int .i64 x.kind, .int .i64 x.a, v] ∧ RSl KInt 1 c v x.targets
theorem monoTerm : MonoK KTerm := by
  rintro c c' x es hc ⟨v, rfl, h⟩
  exact ⟨v, rfl, h.mono monoInt hc⟩
def KBlk (c : Lk) (x : Blk) (es : List Value) : Prop :=
  ∃ vc vt, es = [vc, .int .i64 x.fin.kind, .int .i64 x.fin.a, vt] ∧ RSl KIns 7 c vc x.code ∧ RSl KInt 1 c vt x.fin.targets
theorem monoBlk : MonoK KBlk := by
  rintro c c' x es hc ⟨vc, vt, rfl, h1, h2⟩
  exact ⟨vc, vt, rfl, h1.mono monoIns hc, h2.mono monoInt hc⟩
def KPt (_ : Lk) (x : Nat × Nat) (es : List Value) : Prop := es = [.int .i64 x.1, .int .i64 x.2]
theorem monoPt : MonoK KPt := fun _ _ _ _ _ h => h
abbrev RInts := RSl KInt 1
abbrev RBools := RSl KBool 1
abbrev RSets := RSl (KSl KBool 1) 1
/-- The uses of a point. -/
def RUs (c : Lk) (v : Value) (u : Us) : Prop :=
  ∃ v0 v1 v2 v3 v4, v = .agg #[v0, v1, v2, v3, v4] ∧ RInts c v0 u.copies ∧ RInts c v1 u.moves ∧ RInts c v2 u.shares ∧ RInts c v3 u.lends ∧ RInts c v4 u.defs
theorem RUs.mono {c c' : Lk} {v : Value} {u : Us} (hc : Le c c') (h : RUs c v u) : RUs c' v u := by
  obtain ⟨v0, v1, v2, v3, v4, e, h0, h1, h2, h3, h4⟩ := h
  exact ⟨v0, v1, v2, v3, v4, e, h0.mono monoInt hc, h1.mono monoInt hc, h2.mono monoInt hc, h3.mono monoInt hc, h4.mono monoInt hc⟩
/-- A function (its bounds, its result and its ties are carried along, not looked into). -/
def RFn (c : Lk) (v : Value) (F : Fn) : Prop :=
  ∃ (mo pa ar : Int) (vb vr vl vk vt : Value) (Ab At : Option Addr) (nb cb nt ct : Nat), v = .agg #[.string F.name, .int .i64 mo, .int .i64 pa, vb, .int .i64 ar, .int .i64 F.result.kind, .int .i64 F.result.id, vr, vl, vk, vt] ∧
    vb = .slice Ab nb cb ∧ vt = .slice At nt ct ∧ nb ≤ maxLen ∧ nt ≤ maxLen ∧ RSl KTy 3 c vr F.result.args ∧ RSl KTy 3 c vl F.locals ∧ RSl KBlk 4 c vk F.blocks
theorem RFn.mono {c c' : Lk} {v : Value} {F : Fn} (hc : Le c c') (h : RFn c v F) : RFn c' v F := by
  obtain ⟨mo, pa, ar, vb, vr, vl, vk, vt, Ab, At, nb, cb, nt, ct, e, e1, e2, m1, m2, h1, h2, h3⟩ := h
  exact ⟨mo, pa, ar, vb, vr, vl, vk, vt, Ab, At, nb, cb, nt, ct, e, e1, e2, m1, m2, h1.mono monoTy hc, h2.mono monoTy hc, h3.mono monoBlk hc⟩

/-! ### An element, in the walk's spelling -/
theorem add_field (ad : Addr) (m j : Nat) (hj : 0 < j) : ad.add (m + j) = ⟨(ad.add m).block, (ad.add m).off + j, none⟩ := by
  unfold Addr.add
  by_cases hm : m = 0
  · subst hm
    simp [Nat.ne_of_gt hj]
  · simp [hm, Nat.add_assoc]
theorem RRow.int_at {c : Lk} {A : Option Addr} {xs : List Int} (h : RRow KInt 1 c A xs) (j : Nat) (hj : j < xs.length) : ∃ ad, A = some ad ∧ c (ad.add j) = some (.int .i64 (xs.getD j 0)) := by
  obtain ⟨ad, es, h1, _, h3, h4⟩ := h j _ (List.getElem?_eq_getElem hj)
  have h3' : es = _ := h3
  refine ⟨ad, h1, ?_⟩
  have := h4 0 _ (by rw [h3']; rfl)
  simpa [List.getD_eq_getElem?_getD, hj] using this
theorem RRow.bool_at {c : Lk} {A : Option Addr} {xs : List Bool} (h : RRow KBool 1 c A xs) (j : Nat) (hj : j < xs.length) : ∃ ad, A = some ad ∧ c (ad.add j) = some (.bool (xs.getD j false)) := by
  obtain ⟨ad, es, h1, _, h3, h4⟩ := h j _ (List.getElem?_eq_getElem hj)
  have h3' : es = _ := h3
  refine ⟨ad, h1, ?_⟩
  have := h4 0 _ (by rw [h3']; rfl)
  simpa [List.getD_eq_getElem?_getD, hj] using this
theorem RRow.sl_at {α : Type} {K : Lk → α → List Value → Prop} {sz : Nat} {c : Lk} {A : Option Addr} {xs : List (List α)} (h : RRow (KSl K sz) 1 c A xs) (j : Nat) (hj : j < xs.length) :
    ∃ ad v, A = some ad ∧ c (ad.add j) = some v ∧ RSl K sz c v (xs.getD j []) := by
  obtain ⟨ad, es, h1, _, ⟨v, rfl, h3⟩, h4⟩ := h j _ (List.getElem?_eq_getElem hj)
  refine ⟨ad, v, h1, by simpa using h4 0 _ rfl, ?_⟩
  simpa [List.getD_eq_getElem?_getD, hj] using h3
theorem RRow.ty_at {c : Lk} {A : Option Addr} {xs : List Ty} (h : RRow KTy 3 c A xs) (j : Nat) (hj : j < xs.length) :
    ∃ ad v, A = some ad ∧ c (ad.add (j * 3)) = some (.int .i64 (xs.getD j default).kind) ∧ c ⟨(ad.add (j * 3)).block, (ad.add (j * 3)).off + 1, none⟩ = some (.int .i64 (xs.getD j default).id) ∧
      c ⟨(ad.add (j * 3)).block, (ad.add (j * 3)).off + 2, none⟩ = some v ∧ RSl KTy 3 c v (xs.getD j default).args := by
  obtain ⟨ad, es, h1, _, h3, h4⟩ := h j _ (List.getElem?_eq_getElem hj)
  obtain ⟨v, rfl, hv⟩ := h3.open
  have e : xs.getD j default = xs[j] := by simp [List.getD_eq_getElem?_getD, hj]
  rw [e]
  exact ⟨ad, v, h1, h4 0 _ rfl, by rw [← add_field _ _ 1 (by omega)]; exact h4 1 _ rfl, by rw [← add_field _ _ 2 (by omega)]; exact h4 2 _ rfl, hv⟩
theorem RRow.blk_at {c : Lk} {A : Option Addr} {xs : List Blk} (h : RRow KBlk 4 c A xs) (j : Nat) (hj : j < xs.length) :
    ∃ ad vc vt, A = some ad ∧ c (ad.add (j * 4)) = some vc ∧ c ⟨(ad.add (j * 4)).block, (ad.add (j * 4)).off + 1, none⟩ = some (.int .i64 (xs.getD j default).fin.kind) ∧
      c ⟨(ad.add (j * 4)).block, (ad.add (j * 4)).off + 2, none⟩ = some (.int .i64 (xs.getD j default).fin.a) ∧ c ⟨(ad.add (j * 4)).block, (ad.add (j * 4)).off + 3, none⟩ = some vt ∧
      RSl KIns 7 c vc (xs.getD j default).code ∧ RInts c vt (xs.getD j default).fin.targets := by
  obtain ⟨ad, es, h1, _, h3, h4⟩ := h j _ (List.getElem?_eq_getElem hj)
  obtain ⟨vc, vt, rfl, hv, hw⟩ := h3
  have e : xs.getD j default = xs[j] := by simp [List.getD_eq_getElem?_getD, hj]
  rw [e]
  exact ⟨ad, vc, vt, h1, h4 0 _ rfl, by rw [← add_field _ _ 1 (by omega)]; exact h4 1 _ rfl, by rw [← add_field _ _ 2 (by omega)]; exact h4 2 _ rfl, by rw [← add_field _ _ 3 (by omega)]; exact h4 3 _ rfl, hv, hw⟩
theorem RRow.ins_at {c : Lk} {A : Option Addr} {xs : List Ins} (h : RRow KIns 7 c A xs) (j : Nat) (hj : j < xs.length) :
    ∃ ad va vt, A = some ad ∧ c (ad.add (j * 7)) = some (.int .i64 (xs.getD j default).op) ∧ c ⟨(ad.add (j * 7)).block, (ad.add (j * 7)).off + 1, none⟩ = some (.int .i64 (xs.getD j default).dst) ∧
      c ⟨(ad.add (j * 7)).block, (ad.add (j * 7)).off + 2, none⟩ = some (.int .i64 (xs.getD j default).a) ∧ c ⟨(ad.add (j * 7)).block, (ad.add (j * 7)).off + 3, none⟩ = some (.int .i64 (xs.getD j default).b) ∧
      c ⟨(ad.add (j * 7)).block, (ad.add (j * 7)).off + 4, none⟩ = some (.int .i64 (xs.getD j default).n) ∧ c ⟨(ad.add (j * 7)).block, (ad.add (j * 7)).off + 5, none⟩ = some va ∧
      c ⟨(ad.add (j * 7)).block, (ad.add (j * 7)).off + 6, none⟩ = some vt ∧ RInts c va (xs.getD j default).args ∧ RSl KTy 3 c vt (xs.getD j default).types := by
  obtain ⟨ad, es, h1, _, h3, h4⟩ := h j _ (List.getElem?_eq_getElem hj)
  obtain ⟨va, vt, rfl, hv, hw⟩ := h3
  have e : xs.getD j default = xs[j] := by simp [List.getD_eq_getElem?_getD, hj]
  rw [e]
  exact ⟨ad, va, vt, h1, h4 0 _ rfl, by rw [← add_field _ _ 1 (by omega)]; exact h4 1 _ rfl, by rw [← add_field _ _ 2 (by omega)]; exact h4 2 _ rfl, by rw [← add_field _ _ 3 (by omega)]; exact h4 3 _ rfl,
    by rw [← add_field _ _ 4 (by omega)]; exact h4 4 _ rfl, by rw [← add_field _ _ 5 (by omega)]; exact h4 5 _ rfl, by rw [← add_field _ _ 6 (by omega)]; exact h4 6 _ rfl, hv, hw⟩
theorem RRow.pt_at {c : Lk} {A : Option Addr} {xs : List (Nat × Nat)} (h : RRow KPt 2 c A xs) (j : Nat) (hj : j < xs.length) :
    ∃ ad, A = some ad ∧ c (ad.add (j * 2)) = some (.int .i64 (xs.getD j (0, 0)).1) ∧ c ⟨(ad.add (j * 2)).block, (ad.add (j * 2)).off + 1, none⟩ = some (.int .i64 (xs.getD j (0, 0)).2) := by
  obtain ⟨ad, es, h1, _, h3, h4⟩ := h j _ (List.getElem?_eq_getElem hj)
  have h3' : es = _ := h3
  subst h3'
  have e : xs.getD j (0, 0) = xs[j] := by simp [List.getD_eq_getElem?_getD, hj]
  rw [e]
  exact ⟨ad, h1, h4 0 _ rfl, by rw [← add_field _ _ 1 (by omega)]; exact h4 1 _ rfl⟩
theorem RSl.len {α : Type} {K : Lk → α → List Value → Prop} {sz : Nat} {c : Lk} {v : Value} {xs : List α} (h : RSl K sz c v xs) : xs.length ≤ 9223372036854775807 := by
  obtain ⟨A, k, _, h2, h3, _⟩ := h
  simp only [maxLen] at h3
  omega
theorem RSl.nil {α : Type} (K : Lk → α → List Value → Prop) (sz : Nat) (c : Lk) : RSl K sz c (.slice none 0 0) ([] : List α) := ⟨none, 0, rfl, by simp, by simp, fun j x h => by simp at h⟩

/-! ### What the call itself has made, read -/
theorem look_nil (w : World) : look [] w = w.cell? := by funext a; simp [look]
theorem RSl.of_own {α : Type} {K : Lk → α → List Value → Prop} {sz e base : Nat} {w : World} {v : Value} {cells : List Value} {xs : List α} (D : List Nat) (h : w.ownsRow base e sz v xs.length cells)
    (hd : ∀ k, v.ownBlock = some k → k ∉ D) (hK : ∀ j x, xs[j]? = some x → K (look D w) x ((cells.drop (j * sz)).take sz)) : RSl K sz (look D w) v xs := by
  obtain ⟨hlen, h2⟩ := h
  have h' : w.ownsRow base e sz v xs.length cells := ⟨hlen, h2⟩
  rcases h2 with ⟨rfl, h0⟩ | ⟨g, cap, cur, rfl, hb, hg, hn, hm, hs, ht⟩
  · obtain rfl : xs = [] := List.eq_nil_of_length_eq_zero h0
    exact RSl.nil _ _ _
  · refine ⟨_, cap, rfl, hn, hm, fun j x hj => ⟨_, (cells.drop (j * sz)).take sz, rfl, ?_, hK j x hj, fun i u hu => ?_⟩⟩
    · have hl := (List.getElem?_eq_some_iff.1 hj).1
      have : j * sz + sz ≤ xs.length * sz := by rw [← Nat.succ_mul]; exact Nat.mul_le_mul_right _ hl
      rw [List.length_take, List.length_drop]
      omega
    · rw [List.getElem?_take] at hu
      split at hu
      · rw [List.getElem?_drop] at hu
        refine cell_look ?_ (h'.cells (g := g) rfl _ u hu)
        have : ((⟨g, 0, none⟩ : Addr).add (j * sz + i)).block = g := by unfold Addr.add; split <;> rfl
        rw [this]
        exact hd g rfl
      · cases hu
theorem Tryz.info3 : (Tryz.prog.info? 3).map (fun i => (i.zero, i.size, i.bytes)) = some (some (.int .i64 0), 1, 8) := by kernel_rfl
abbrev ints (xs : List Int) : List Value := xs.map (Value.int .i64)
abbrev bools (xs : List Bool) : List Value := xs.map Value.bool
theorem take1_map {α : Type} (f : α → Value) (xs : List α) (j : Nat) (x : α) (h : xs[j]? = some x) : ((xs.map f).drop (j * 1)).take 1 = [f x] := by
  rw [Nat.mul_one, ← List.map_drop, ← List.map_take]
  have hl := (List.getElem?_eq_some_iff.1 h).1
  rw [List.drop_eq_getElem_cons hl]
  have : xs[j] = x := (List.getElem?_eq_some_iff.1 h).2
  simp [this]
theorem RInts.of_own {e base : Nat} {w : World} {v : Value} {xs : List Int} (D : List Nat) (h : w.ownsRow base e 1 v xs.length (ints xs)) (hd : ∀ k, v.ownBlock = some k → k ∉ D) : RInts (look D w) v xs :=
  RSl.of_own D h hd (fun j x hj => take1_map _ _ _ _ hj)
theorem RBools.of_own {e base : Nat} {w : World} {v : Value} {xs : List Bool} (D : List Nat) (h : w.ownsRow base e 1 v xs.length (bools xs)) (hd : ∀ k, v.ownBlock = some k → k ∉ D) : RBools (look D w) v xs :=
  RSl.of_own D h hd (fun j x hj => take1_map _ _ _ _ hj)
/-- A literal of one number. -/
theorem own_int1 (w : World) (x : Int) : (w.alloc (.cells #[.int .i64 x] 3)).ownsRow w.heap.size 3 1 (.slice (some ⟨w.heap.size, 0, none⟩) 1 1) 1 (ints [x]) :=
  World.ownsRow_lit w #[.int .i64 x] 1 (Nat.le_refl _) (by simp [maxLen]) rfl
theorem own_int2 (w : World) (x y : Int) : (w.alloc (.cells #[.int .i64 x, .int .i64 y] 3)).ownsRow w.heap.size 3 1 (.slice (some ⟨w.heap.size, 0, none⟩) 2 2) 2 (ints [x, y]) :=
  World.ownsRow_lit w #[.int .i64 x, .int .i64 y] 2 (Nat.le_refl _) (by simp [maxLen]) rfl
theorem rints_new1 (w : World) (x : Int) : RInts (w.alloc (.cells #[.int .i64 x] 3)).cell? (.slice (some ⟨w.heap.size, 0, none⟩) 1 1) [x] := by
  rw [← look_nil]
  exact RInts.of_own (xs := [x]) [] (own_int1 w x) (by simp)
end Go.Proofs.YtdkjkgokllmkmaaGreatDoor.Lv
