/- The points' numbers, plain. -/
import Derived.Test.YtdkjkgokllmkmaaGreatDoorLvm
namespace Go.Proofs.YtdkjkgokllmkmaaGreatDoor.Lv
set_option linter.unusedVariables false
set_option linter.unusedSimpArgs false
def idx (F : Fn) (q : Nat × Nat) : Nat := q.2 + offs F q.1
theorem pts_len (F : Fn) : (pts F).length = offs F F.blocks.length := by rw [pts_eq, ptsU_len]
theorem offs_succ (F : Fn) (b : Nat) : offs F (b + 1) = offs F b + ((F.blk b).code.length + 1) := by
  rw [← ptsU_len, ← ptsU_len, ptsU_succ, List.length_append]
  simp [ptsB]
theorem offs_mono (F : Fn) {a b : Nat} (h : a ≤ b) : offs F a ≤ offs F b := by
  induction h with
  | refl => exact Nat.le_refl _
  | step _ ih =>
    rw [offs_succ]
    omega
theorem idx_lt {F : Fn} {q : Nat × Nat} (h : isPt F q) : idx F q < (pts F).length := by
  have h1 : q.1 < F.blocks.length := h.1
  have h2 := h.2
  have h3 := offs_mono F (show q.1 + 1 ≤ F.blocks.length by omega)
  rw [offs_succ] at h3
  rw [pts_len]
  unfold idx
  omega
theorem ptsU_get (F : Fn) (q : Nat × Nat) (hq : q.2 ≤ (F.blk q.1).code.length) : ∀ b, q.1 < b → (ptsU F b)[idx F q]? = some q := by
  intro b
  induction b with
  | zero => intro h; omega
  | succ b ih =>
    intro h
    rw [ptsU_succ]
    have hlt : idx F q < offs F (q.1 + 1) := by
      rw [offs_succ]
      unfold idx
      omega
    by_cases e : q.1 = b
    · obtain ⟨a, i⟩ := q
      simp only at e hq
      subst e
      rw [List.getElem?_append_right (by rw [ptsU_len]; unfold idx; simp only; omega), ptsU_len]
      have : idx F (a, i) - offs F a = i := by unfold idx; simp only; omega
      rw [this]
      have hi : i < (F.blk a).code.length + 1 := by omega
      simp [ptsB, hi]
    · have hm := offs_mono F (show q.1 + 1 ≤ b by omega)
      rw [List.getElem?_append_left (by rw [ptsU_len]; omega)]
      exact ih (by omega)
theorem pts_idx {F : Fn} {q : Nat × Nat} (h : isPt F q) : (pts F)[idx F q]? = some q := by
  rw [pts_eq]
  exact ptsU_get F q h.2 _ h.1
theorem next_pt {F : Fn} {p q : Nat × Nat} (h : isPt F p) (hq : q ∈ next F p) : isPt F q := by
  unfold next at hq
  split at hq
  · rw [List.mem_singleton] at hq
    subst hq
    refine ⟨h.1, ?_⟩
    simp only
    omega
  · unfold tgts at hq
    rw [List.mem_filterMap] at hq
    obtain ⟨t, ht, e⟩ := hq
    split at e
    · rename_i hin
      have e' : (t.toNat, 0) = q := by simpa using e
      subst e'
      refine ⟨?_, Nat.zero_le _⟩
      show t.toNat < F.blocks.length
      omega
    · cases e
theorem mem_pts {F : Fn} {p : Nat × Nat} : p ∈ pts F ↔ isPt F p := by
  constructor
  · intro h
    rw [pts_eq] at h
    unfold ptsU at h
    obtain ⟨b, hb, hp⟩ := List.mem_flatMap.1 h
    unfold ptsB at hp
    obtain ⟨i, hi, rfl⟩ := List.mem_map.1 hp
    refine ⟨List.mem_range.1 hb, ?_⟩
    have := List.mem_range.1 hi
    simp only
    omega
  · intro h
    exact List.mem_of_getElem? (pts_idx h)
end Go.Proofs.YtdkjkgokllmkmaaGreatDoor.Lv
