/- LivenessEquations: the walk. -/
import Derived.Test.YtdkjkgokllmkmaaGreatDoorLxa
import Derived.Test.YtdkjkgokllmkmaaGreatDoorLwk
namespace Go.Proofs.YtdkjkgokllmkmaaGreatDoor.Lv
open Go.RowKit
set_option linter.unusedVariables false
set_option linter.unusedSimpArgs false
theorem Tryz.mk38 (n : Nat) (hn : n ≤ 1000000) (w : World) : (Instr.makeSlice 38 (.int .i64 (n : Int)) (.int .i64 (n : Int))).run Tryz.prog w = .ok (.slice (some ⟨w.heap.size, 0, none⟩) n n) (w.alloc (.cells (tabA n fun _ => .bool false) 4)) := by
  obtain ⟨i0, hi0, hz0, hz1, hz2⟩ := info_parts Tryz.info4
  have := run_make (P := Tryz.prog) w 38 4 i0 _ Tryz.underlying38 hi0 hz0 .i64 .i64 n n (by omega) (by omega) (by rw [hz2]; omega) (by omega)
  rw [hz1] at this
  simpa [made_tab, Value.cells] using this
theorem before_len (F : Fn) : (before F).length = (pts F).length := by simp [before]
theorem after_len (F : Fn) : (after F).length = (pts F).length := by simp [after]
theorem before_rows {F : Fn} : ∀ s, s ∈ before F → s.length = F.locals.length := fun s hs => by
  unfold before at hs
  obtain ⟨p, _, rfl⟩ := List.mem_map.1 hs
  simp [Fn.nl]
theorem after_rows {F : Fn} : ∀ s, s ∈ after F → s.length = F.locals.length := fun s hs => by
  unfold after at hs
  obtain ⟨p, _, rfl⟩ := List.mem_map.1 hs
  simp [Fn.nl]
theorem before_at {F : Fn} {k v : Nat} (hk : k < (pts F).length) (hv : v < F.locals.length) : ((before F).getD k []).getD v false = liveB F ((pts F).getD k (0, 0)) v := by
  unfold before
  simp [List.getD_eq_getElem?_getD, hk, hv, Fn.nl]
theorem after_at {F : Fn} {k v : Nat} (hk : k < (pts F).length) (hv : v < F.locals.length) : ((after F).getD k []).getD v false = afterB F ((pts F).getD k (0, 0)) v := by
  unfold after
  simp [List.getD_eq_getElem?_getD, hk, hv, Fn.nl]
theorem pts_at {F : Fn} {k : Nat} (hk : k < (pts F).length) : isPt F ((pts F).getD k (0, 0)) := by
  rw [List.getD_eq_getElem?_getD, List.getElem?_eq_getElem hk]
  exact mem_pts.1 (List.getElem_mem hk)
theorem before_idx {F : Fn} {q : Nat × Nat} {v : Nat} (hq : isPt F q) (hv : v < F.locals.length) : ((before F).getD (idx F q) []).getD v false = liveB F q v := by
  rw [before_at (idx_lt hq) hv, List.getD_eq_getElem?_getD, pts_idx hq]
  rfl
/-- Which of the first points use a local. -/
def usedK (F : Fn) (k v : Nat) : Bool := ((pts F).take k).any fun p => (at_ F p).used v
theorem usedK_succ {F : Fn} {k v : Nat} (hk : k < (pts F).length) : usedK F (k + 1) v = (usedK F k v || (at_ F ((pts F).getD k (0, 0))).used v) := by
  unfold usedK
  rw [take_snoc _ _ (0, 0) hk, List.any_append]
  simp
theorem usedK_all {F : Fn} {v : Nat} {p : Nat × Nat} (hp : isPt F p) (h : liveB F p v = true) : usedK F (pts F).length v = true := by
  rw [liveB_iff] at h
  unfold usedK
  rw [List.take_length, List.any_eq_true]
  induction h with
  | use h => exact ⟨_, mem_pts.2 hp, h⟩
  | pass hd hq _ ih => exact ih (next_pt hp hq)
/-- A local is live before one of the first points of a list. -/
noncomputable def someK (F : Fn) (l : List (Nat × Nat)) (v k : Nat) : Bool := (l.take k).any fun q => liveB F q v
theorem someK_zero (F : Fn) (l : List (Nat × Nat)) (v : Nat) : someK F l v 0 = false := by simp [someK]
theorem someK_succ {F : Fn} {l : List (Nat × Nat)} {v k : Nat} (hk : k < l.length) : someK F l v (k + 1) = (someK F l v k || liveB F (l.getD k (0, 0)) v) := by
  unfold someK
  rw [take_snoc _ _ (0, 0) hk, List.any_append]
  simp
theorem someK_all (F : Fn) (p : Nat × Nat) (v : Nat) : someK F (next F p) v (next F p).length = afterB F p v := by
  unfold someK afterB
  rw [List.take_length]
theorem bools_no {n : Nat} {f : Nat → Bool} (j : Nat) (m : Int) : (tabA n fun a => Value.bool (f a))[j]? ≠ some (Value.int .i64 m) := fun h => by
  by_cases hj : j < n
  · rw [tabA_get hj] at h
    cases h
  · rw [Array.getElem?_eq_none (by rw [tabA_size]; omega)] at h
    cases h
/-- Rows of points don't lie in a block that holds no number. -/
theorem RPts.avoid {w : World} {v : Value} {xs : List (Nat × Nat)} {b t : Nat} {cs : Array Value} (h : RSl KPt 2 w.cell? v xs) (hb : Bx w b t cs) (hn : ∀ (j : Nat) (n : Int), cs[j]? ≠ some (Value.int .i64 n)) : RSl KPt 2 (look [b] w) v xs := by
  obtain ⟨A, k, e, h1, h2, h3⟩ := h
  refine ⟨A, k, e, h1, h2, fun j x hj => ?_⟩
  obtain ⟨ad, es, e1, e2, e3, e4⟩ := h3 j x hj
  have e3' : es = [.int .i64 x.1, .int .i64 x.2] := e3
  refine ⟨ad, es, e1, e2, e3, fun i u hu => ?_⟩
  refine cell_look ?_ (e4 i u hu)
  intro hm
  rw [List.mem_singleton] at hm
  have hc := e4 i u hu
  have hu' : ∃ n : Int, u = .int .i64 n := by
    subst e3'
    match i, hu with
    | 0, hu => exact ⟨_, by simpa using hu.symm⟩
    | 1, hu => exact ⟨_, by simpa using hu.symm⟩
  obtain ⟨n, rfl⟩ := hu'
  unfold World.cell? at hc
  rw [hm, show w.heap[b]? = _ from hb] at hc
  simp only at hc
  split at hc
  · cases hc
  · exact hn _ _ hc
end Go.Proofs.YtdkjkgokllmkmaaGreatDoor.Lv
