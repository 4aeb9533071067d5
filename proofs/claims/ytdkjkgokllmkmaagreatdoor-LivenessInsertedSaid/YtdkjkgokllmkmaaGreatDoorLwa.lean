/- The work list's rows in memory: rows of numbers of the call's own that may begin anywhere in their block; append; what a world keeps. -/
import Derived.Test.YtdkjkgokllmkmaaGreatDoorLvy
import Derived.Test.YtdkjkgokllmkmaaGreatDoorLvw
import Derived.Deep.AppendSrc
namespace Go.Proofs.YtdkjkgokllmkmaaGreatDoor.Lv
open Go.RowKit
set_option linter.unusedVariables false
set_option linter.unusedSimpArgs false
theorem grown_setCell (w : World) (p : Addr) (u : Value) : w.grownBy (w.setCell p u) (some p.block) :=
  ⟨rfl, rfl, rfl, by simp, fun k _ hr => Below.heap_setCell w p u k (fun e => hr (by rw [e]))⟩
theorem grown_setCells (b : Nat) : ∀ (vs : List Value) (o : Nat) (w : World), w.grownBy (w.setCells b o vs) (some b)
  | [], _, w => grown_refl _ _
  | v :: r, o, w => grown_trans (grown_setCell w ⟨b, o, none⟩ v) (grown_setCells b r (o + 1) _)
theorem Bx.setCells {b t : Nat} : ∀ (vs : List Value) (o : Nat) (w : World) (cs : Array Value), Bx w b t cs →
    ∃ cs', Bx (w.setCells b o vs) b t cs' ∧ cs'.size = cs.size ∧ (∀ j, j < o ∨ o + vs.length ≤ j → cs'[j]? = cs[j]?) ∧ (∀ j, j < vs.length → o + j < cs.size → cs'[o + j]? = vs[j]?)
  | [], o, w, cs, h => ⟨cs, h, rfl, fun _ _ => rfl, fun j hj => by simp at hj⟩
  | v :: r, o, w, cs, h => by
    obtain ⟨cs', h1, h2, h3, h4⟩ := Bx.setCells r (o + 1) _ _ (h.set o v)
    refine ⟨cs', h1, by simpa using h2, fun j hj => ?_, fun j hj hs => ?_⟩
    · rw [h3 j (by simp at hj; omega), Array.getElem?_setIfInBounds_ne (by simp at hj; omega)]
    · cases j with
      | zero =>
        rw [Nat.add_zero, h3 o (by omega)]
        simp only [Nat.add_zero] at hs
        simp [hs]
      | succ j =>
        have := h4 j (by simp at hj; omega) (by simp; omega)
        rw [show o + (j + 1) = o + 1 + j by omega, this]
        simp
/-- Numbers of the call's own, wherever they begin. -/
def QRow (base : Nat) (w : World) (v : Value) (xs : List Int) : Prop :=
  (v = .slice none 0 0 ∧ xs = []) ∨
  ∃ g off cap cells, v = .slice (some ⟨g, off, none⟩) xs.length cap ∧ base ≤ g ∧ Bx w g 3 cells ∧ xs.length ≤ cap ∧ cap ≤ maxLen ∧ off + cap ≤ cells.size ∧ ∀ j x, xs[j]? = some x → cells[off + j]? = some (.int .i64 x)
theorem QRow.nil (base : Nat) (w : World) : QRow base w (.slice none 0 0) [] := .inl ⟨rfl, rfl⟩
theorem QRow.shape {base : Nat} {w : World} {v : Value} {xs : List Int} (h : QRow base w v xs) : ∃ A cap, v = .slice A xs.length cap := by
  rcases h with ⟨rfl, rfl⟩ | ⟨g, off, cap, cells, rfl, _⟩
  · exact ⟨none, 0, rfl⟩
  · exact ⟨_, _, rfl⟩
theorem QRow.form {base : Nat} {w : World} {v : Value} {xs : List Int} (h : QRow base w v xs) (hl : 0 < xs.length) : ∃ g off cap, v = .slice (some ⟨g, off, none⟩) xs.length cap := by
  rcases h with ⟨rfl, rfl⟩ | ⟨g, off, cap, cells, rfl, _⟩
  · simp at hl
  · exact ⟨_, _, _, rfl⟩
theorem QRow.grown {base : Nat} {w w' : World} {v : Value} {xs : List Int} {row : Option Nat} (h : QRow base w v xs) (hg : w.grownBy w' row) (hr : ∀ g, v.ownBlock = some g → row ≠ some g) : QRow base w' v xs := by
  rcases h with h | ⟨g, off, cap, cells, rfl, h1, h2, h3⟩
  · exact .inl h
  · exact .inr ⟨g, off, cap, cells, rfl, h1, h2.grown hg (fun e => hr g rfl e.symm), h3⟩
theorem QRow.ck {base : Nat} {D : List Nat} {w w' : World} {v : Value} {xs : List Int} (h : QRow base w v xs) (hg : CK D w w') (hr : ∀ g, v.ownBlock = some g → g ∉ D) : QRow base w' v xs := by
  rcases h with h | ⟨g, off, cap, cells, rfl, h1, h2, h3⟩
  · exact .inl h
  · exact .inr ⟨g, off, cap, cells, rfl, h1, hg.bx h2 (hr g rfl), h3⟩
theorem QRow.lt {base : Nat} {w : World} {v : Value} {xs : List Int} (h : QRow base w v xs) {g : Nat} (hg : v.ownBlock = some g) : base ≤ g ∧ g < w.heap.size ∧ ∃ cs, Bx w g 3 cs := by
  rcases h with ⟨rfl, _⟩ | ⟨g', off, cap, cells, rfl, h1, h2, h3⟩
  · cases hg
  · simp only [Value.ownBlock, Option.some.injEq] at hg
    subst hg
    exact ⟨h1, h2.lt, cells, h2⟩
theorem QRow.apart {base : Nat} {w : World} {v : Value} {xs : List Int} (h : QRow base w v xs) {b t : Nat} {cs : Array Value} (hb : Bx w b t cs) (ht : t ≠ 3) : v.ownBlock ≠ some b := by
  intro e
  obtain ⟨_, _, cs', h'⟩ := h.lt e
  have := hb.symm.trans h'
  simp only [Option.some.injEq, Obj.cells.injEq] at this
  exact ht this.2.1
theorem QRow.ints {base : Nat} {w : World} {v : Value} {xs : List Int} (h : QRow base w v xs) (D : List Nat) (hd : ∀ g, v.ownBlock = some g → g ∉ D) : RInts (look D w) v xs := by
  rcases h with ⟨rfl, rfl⟩ | ⟨g, off, cap, cells, rfl, h1, h2, h3, h4, h5, h6⟩
  · exact RSl.nil _ _ _
  · refine ⟨_, _, rfl, h3, h4, fun j x hj => ⟨⟨g, off, none⟩, [.int .i64 x], rfl, rfl, rfl, fun i u hu => ?_⟩⟩
    have hi : i = 0 := by have := (List.getElem?_eq_some_iff.1 hu).1; simp at this; exact this
    subst hi
    simp only [List.getElem?_cons_zero, Option.some.injEq] at hu
    subst hu
    rw [Addr.add_lit, show off + (j * 1 + 0) = off + j by omega]
    refine cell_look (hd g rfl) ?_
    rw [h2.cell]
    exact h6 j x hj
theorem QRow.ints0 {base : Nat} {w : World} {v : Value} {xs : List Int} (h : QRow base w v xs) : RInts w.cell? v xs := by
  rw [← look_nil]
  exact h.ints [] (fun _ _ => by simp)
/-- Without its first number. -/
theorem QRow.tail {base : Nat} {w : World} {g off cap n : Nat} {x : Int} {xs : List Int} (h : QRow base w (.slice (some ⟨g, off, none⟩) n cap) (x :: xs)) :
    n = xs.length + 1 ∧ n ≤ cap ∧ w.cell? ⟨g, off, none⟩ = some (.int .i64 x) ∧ QRow base w (.slice (some ⟨g, off, none⟩) xs.length 0) [] = QRow base w (.slice (some ⟨g, off, none⟩) xs.length 0) [] ∧
      (∀ off', (off' = off + 1 ∨ cap = 1 ∧ off' = off) → QRow base w (.slice (some ⟨g, off', none⟩) xs.length (cap - 1)) xs) := by
  rcases h with ⟨h, _⟩ | ⟨g', off', cap', cells, e, h1, h2, h3, h4, h5, h6⟩
  · cases h
  · simp only [Value.slice.injEq, Option.some.injEq, Addr.mk.injEq] at e
    obtain ⟨⟨rfl, rfl, _⟩, rfl, rfl⟩ := e
    simp only [List.length_cons] at h3
    refine ⟨rfl, h3, by rw [h2.cell]; have := h6 0 x rfl; simpa using this, rfl, ?_⟩
    rintro o (rfl | ⟨rfl, rfl⟩)
    · exact .inr ⟨g, _, _, cells, rfl, h1, h2, by omega, by omega, by omega, fun j y hj => by have := h6 (j + 1) y (by simpa using hj); rw [show off + 1 + j = off + (j + 1) by omega]; exact this⟩
    · have hx : xs.length = 0 := by omega
      exact .inr ⟨g, _, _, cells, rfl, h1, h2, by omega, by omega, by omega, fun j y hj => by have := (List.getElem?_eq_some_iff.1 hj).1; omega⟩
theorem src_ints {w : World} {x : Value} {ys : List Int} (h : RInts w.cell? x ys) : Src Tryz.prog 1 27 x ys.length (ints ys) w := by
  obtain ⟨A, k, rfl, h1, h2, h3⟩ := h
  cases ys with
  | nil =>
    cases A with
    | none => exact Src.ofNil w Tryz.underlying27 _
    | some a => exact Src.ofSlice w Tryz.underlying27 a 0 k [] rfl (fun j u hj => by simp at hj) (fun u hu => by simp at hu)
  | cons y ys =>
    obtain ⟨ad, es, rfl, _⟩ := h3 0 y rfl
    refine Src.ofSlice w Tryz.underlying27 ad _ k _ (by simp [ints]) (fun j u hj => ?_) (fun u hu => ?_)
    · simp only [ints, List.getElem?_map, Option.map_eq_some_iff] at hj
      obtain ⟨x, hx, rfl⟩ := hj
      obtain ⟨ad', es, e, _, h4, h5⟩ := h3 j x hx
      simp only [Option.some.injEq] at e
      subst e
      have h4' : es = [.int .i64 x] := h4
      subst h4'
      have := h5 0 _ rfl
      rw [show j * 1 + 0 = j by omega] at this
      exact this
    · obtain ⟨x, _, rfl⟩ := List.mem_map.1 hu
      rfl
set_option maxRecDepth 100000 in
theorem run_append_q (base : Nat) (w : World) (v x : Value) (xs ys : List Int) (ty : TypeId) (h : QRow base w v xs) (hx : RInts w.cell? x ys) (hb : base ≤ w.heap.size) (hn : xs.length + ys.length ≤ 1000000000) :
    ∃ v' w', (Builtin.append_ #[27, 27] ty #[v, x]).run Tryz.prog w = .ok v' w' ∧ QRow base w' v' (xs ++ ys) ∧ w.grownBy w' v.ownBlock ∧ (v'.ownBlock = v.ownBlock ∨ ∃ g, v'.ownBlock = some g ∧ w.heap.size ≤ g) := by
  obtain ⟨i0, hi0, hz0, hz1, hz2⟩ := info_parts Tryz.info3
  have hs : Src Tryz.prog i0.size 27 x ys.length (ints ys) w := by rw [hz1]; exact src_ints hx
  have hil : (ints ys).length = ys.length := by simp [ints]
  have grow : ∀ (bs : Option Addr) (cap : Nat), v = .slice bs xs.length cap → cap < xs.length + ys.length →
      (Builtin.firstCells i0.size xs.length (.slice bs xs.length cap)).run Tryz.prog w.drew = .ok (ints xs).toArray w.drew →
      ∃ v' w', (Builtin.append_ #[27, 27] ty #[v, x]).run Tryz.prog w = .ok v' w' ∧ QRow base w' v' (xs ++ ys) ∧ w.grownBy w' v.ownBlock ∧ (v'.ownBlock = v.ownBlock ∨ ∃ g, v'.ownBlock = some g ∧ w.heap.size ≤ g) := by
    rintro bs cap rfl hg hold
    have hrun := run_append_grow_src (P := Tryz.prog) w 27 27 ty 3 i0 (.int .i64 0) Tryz.underlying27 hi0 hz0 bs xs.length cap (ints xs) hold x ys.length (ints ys) hs hg (by omega)
      (by rw [hz2]; exact growslice_fits hg (by omega))
    have hge := grownCap_ge w (xs.length + ys.length) cap 3
    have hcm := grownCap_le_maxLen w (xs.length + ys.length) cap 3 (by simp only [maxLen]; omega)
    refine ⟨_, _, hrun, .inr ⟨w.heap.size, 0, _, _, by rw [List.length_append], hb, heap_alloc_new w.drew _, by rw [List.length_append]; exact hge, hcm, ?_, ?_⟩,
      ⟨rfl, rfl, rfl, by simp, fun k hk _ => Below.heap_alloc w.drew _ k hk⟩, .inr ⟨_, rfl, Nat.le_refl _⟩⟩
    · simp only [Array.size_append, List.size_toArray, size_zeroCells, List.length_append, ints, List.length_map, Value.cells, List.length_cons, List.length_nil, Nat.mul_one]
      simp
      omega
    · intro j y hj
      have hjl := (List.getElem?_eq_some_iff.1 hj).1
      rw [List.length_append] at hjl
      rw [Nat.zero_add, Array.getElem?_append_left (by simp [ints]; exact hjl)]
      simp only [List.getElem?_toArray, ints, ← List.map_append, List.getElem?_map, hj, Option.map_some]
  rcases h with ⟨rfl, rfl⟩ | ⟨g, off, cap, cells, rfl, h1, h2, h3, h4, h5, h6⟩
  · by_cases hy : ys.length = 0
    · obtain rfl : ys = [] := List.eq_nil_of_length_eq_zero hy
      have hs0 : (Builtin.firstCells i0.size 0 x).run Tryz.prog w = .ok #[] w := by simpa [ints] using hs.cells
      refine ⟨.slice none 0 0, w, ?_, .inl ⟨rfl, rfl⟩, grown_refl _ _, .inl rfl⟩
      simp [Builtin.append_, run_underlying Tryz.underlying27, sizeOf, typeInfo, hi0, hs.len, hs0, storeCells, ints, Result.andThen]
    · exact grow none 0 rfl (by simp; omega) (run_firstCells_none w.drew i0.size 0 0 0)
  · by_cases hroom : xs.length + ys.length ≤ cap
    · have hcs : ∀ j, j < (ints ys).length → (w.cell? ⟨g, off + xs.length * i0.size + j, none⟩).isSome = true := fun j hj => by
        rw [h2.cell, Array.getElem?_eq_getElem (by rw [hz1, Nat.mul_one]; omega)]
        rfl
      have hrun := run_append_room_src (P := Tryz.prog) w 27 27 ty 3 i0 Tryz.underlying27 hi0 g off xs.length cap x ys.length (ints ys) hs hroom hcs (fun j hj => h2.frozen _)
      rw [hz1, Nat.mul_one] at hrun
      obtain ⟨cs', k1, k2, k3, k4⟩ := Bx.setCells (ints ys) (off + xs.length) w cells h2
      refine ⟨_, _, hrun, .inr ⟨g, off, cap, cs', by rw [List.length_append], h1, k1, by rw [List.length_append]; exact hroom, h4, by rw [k2]; exact h5, ?_⟩, grown_setCells _ _ _ _, .inl rfl⟩
      intro j y hj
      have hjl := (List.getElem?_eq_some_iff.1 hj).1
      rw [List.length_append] at hjl
      by_cases hjx : j < xs.length
      · rw [k3 _ (by omega)]
        exact h6 j y (by rw [List.getElem?_append_left hjx] at hj; exact hj)
      · rw [List.getElem?_append_right (by omega)] at hj
        have := k4 (j - xs.length) (by omega) (by omega)
        rw [show off + xs.length + (j - xs.length) = off + j by omega] at this
        rw [this]
        simp [ints, hj]
    · refine grow (some ⟨g, off, none⟩) cap rfl (by omega) ?_
      rw [hz1]
      refine run_firstCells_some w.drew 1 xs.length ⟨g, off, none⟩ xs.length cap (ints xs) (by simp [ints]) (fun j u hu => ?_)
      simp only [ints, List.getElem?_map, Option.map_eq_some_iff] at hu
      obtain ⟨y, hy, rfl⟩ := hu
      rw [Addr.add_lit]
      exact (h2.drew.cell _).trans (h6 j y hy)
/-- .. for the walk. -/
theorem wpList_append_q (base : Nat) (w : World) {ops : Array Oper} {rest : List Oper} {o : Oper} {a : Act} {Q : Exit → Act → World → Prop} (hgd : o.guard = none) (s x : Operand)
    (ho : o.op = .call { callee := .builtin .append, args := #[s, x], argTypes := #[27, 27] }) {v xv : Value} {xs ys : List Int} (hv : a.eval s = v) (hxv : a.eval x = xv)
    (h : QRow base w v xs) (hx : RInts w.cell? xv ys) (hb : base ≤ w.heap.size) (hn : xs.length + ys.length ≤ 1000000000)
    (hK : ∀ v' w', QRow base w' v' (xs ++ ys) → w.grownBy w' v.ownBlock → (v'.ownBlock = v.ownBlock ∨ ∃ g, v'.ownBlock = some g ∧ w.heap.size ≤ g) → wpList Tryz.prog ops Q rest (a.put o.dst v') w') : wpList Tryz.prog ops Q (o :: rest) a w := by
  refine wpList_plain hgd fun K hK' => ?_
  obtain ⟨v', w', hrun, r1, r2, r3⟩ := run_append_q base w v xv xs ys o.type h hx hb hn
  unfold Oper.wp
  simp [execOp, ho, resolve, invoke, builtin, hv, hxv, hrun, Result.andThen]
  exact hK' _ _ (hK v' w' r1 r2 r3)
end Go.Proofs.YtdkjkgokllmkmaaGreatDoor.Lv
