/- The reference's Before, plain: the sets grow from nothing to what is live. -/
import Derived.Test.YtdkjkgokllmkmaaGreatDoorLws
namespace Go.Proofs.YtdkjkgokllmkmaaGreatDoor.Lv
set_option linter.unusedVariables false
set_option linter.unusedSimpArgs false
theorem ptsU_at (F : Fn) : ∀ b i, i < offs F b → ∃ q, (ptsU F b)[i]? = some q ∧ idx F q = i := by
  intro b
  induction b with
  | zero => intro i h; simp [offs] at h
  | succ b ih =>
    intro i h
    rw [ptsU_succ]
    rw [offs_succ] at h
    by_cases hi : i < offs F b
    · obtain ⟨q, h1, h2⟩ := ih i hi
      exact ⟨q, by rw [List.getElem?_append_left (by rw [ptsU_len]; exact hi)]; exact h1, h2⟩
    · refine ⟨(b, i - offs F b), ?_, ?_⟩
      · rw [List.getElem?_append_right (by rw [ptsU_len]; omega), ptsU_len]
        have : i - offs F b < (F.blk b).code.length + 1 := by omega
        simp [ptsB, this]
      · unfold idx
        simp only
        omega
theorem idx_pts {F : Fn} {i : Nat} (h : i < (pts F).length) : idx F ((pts F).getD i (0, 0)) = i := by
  obtain ⟨q, h1, h2⟩ := ptsU_at F F.blocks.length i (by rw [← pts_len]; exact h)
  rw [pts_eq, List.getD_eq_getElem?_getD, h1]
  exact h2
theorem pts_getD {F : Fn} {q : Nat × Nat} (h : isPt F q) : (pts F).getD (idx F q) (0, 0) = q := by
  rw [List.getD_eq_getElem?_getD, pts_idx h]
  rfl
theorem orL_at (xs ys : List Bool) (v : Nat) (h : v < xs.length) : (orL xs ys).getD v false = (xs.getD v false || ys.getD v false) := by
  unfold orL
  rw [orK_get _ _ _ _ h, if_pos h]
theorem orL_ln (xs ys : List Bool) : (orL xs ys).length = xs.length := orK_len _ _ _
theorem followK_get (F : Fn) (xss : List (List Bool)) (v : Nat) : ∀ (l : List (Nat × Nat)) (acc : List Bool), v < acc.length → (followK F xss acc l).getD v false = (acc.getD v false || l.any fun q => (xss.getD (idx F q) []).getD v false) := by
  intro l
  induction l with
  | nil => intro acc h; simp [followK]
  | cons q l ih =>
    intro acc h
    show (followK F xss (orL acc _) l).getD v false = _
    rw [ih _ (by rw [orL_ln]; exact h), orL_at _ _ _ h, List.any_cons, Bool.or_assoc]
theorem followL_len (F : Fn) (xss : List (List Bool)) (p : Nat × Nat) : (followL F xss p).length = F.locals.length := by
  unfold followL
  rw [followK_len, List.length_replicate]
theorem followL_get (F : Fn) (xss : List (List Bool)) (p : Nat × Nat) (v : Nat) (h : v < F.locals.length) : (followL F xss p).getD v false = (next F p).any fun q => (xss.getD (idx F q) []).getD v false := by
  unfold followL
  rw [followK_get _ _ _ _ _ (by rw [List.length_replicate]; exact h)]
  have : (List.replicate F.locals.length false).getD v false = false := by
    rw [List.getD_eq_getElem?_getD, List.getElem?_replicate]
    split <;> rfl
  rw [this, Bool.false_or]
def stp (F : Fn) (xss : List (List Bool)) (p : Nat × Nat) : List Bool := thr (at_ F p) (followL F xss p)
theorem stp_len (F : Fn) (xss : List (List Bool)) (p : Nat × Nat) : (stp F xss p).length = F.locals.length := by
  unfold stp
  rw [thr_len, followL_len]
theorem stp_get (F : Fn) (xss : List (List Bool)) (p : Nat × Nat) (v : Nat) (h : v < F.locals.length) : (stp F xss p).getD v false = ((at_ F p).used v || (!(at_ F p).defd v && (next F p).any fun q => (xss.getD (idx F q) []).getD v false)) := by
  unfold stp
  rw [thr_get _ _ _ (by rw [followL_len]; exact h), followL_get _ _ _ _ h]
/-- A local is in the set of a point. -/
def inS (F : Fn) (xss : List (List Bool)) (p : Nat × Nat) (v : Nat) : Prop := (xss.getD (idx F p) []).getD v false = true
structure LInv (F : Fn) (xss : List (List Bool)) : Prop where
  len : xss.length = (pts F).length
  rows : ∀ s, s ∈ xss → s.length = F.locals.length
  sub : ∀ p v, isPt F p → v < F.locals.length → inS F xss p v → Live F v p
  grow : ∀ p v, isPt F p → v < F.locals.length → inS F xss p v → (stp F xss p).getD v false = true
theorem LInv.row {F : Fn} {xss : List (List Bool)} (h : LInv F xss) {i : Nat} (hi : i < (pts F).length) : (xss.getD i []).length = F.locals.length := by
  have hi' : i < xss.length := by rw [h.len]; exact hi
  refine h.rows _ ?_
  rw [List.getD_eq_getElem?_getD, List.getElem?_eq_getElem hi']
  exact List.getElem_mem hi'
theorem LInv.init (F : Fn) : LInv F (List.replicate (pts F).length (List.replicate F.locals.length false)) := by
  have hn : ∀ p v, ¬ inS F (List.replicate (pts F).length (List.replicate F.locals.length false)) p v := fun p v h => by
    unfold inS at h
    rw [List.getD_eq_getElem?_getD (l := List.replicate (pts F).length _), List.getElem?_replicate] at h
    split at h
    · simp only [Option.getD_some] at h
      rw [List.getD_eq_getElem?_getD, List.getElem?_replicate] at h
      split at h <;> simp at h
    · simp at h
  refine ⟨List.length_replicate, fun s hs => ?_, fun p v _ _ h => absurd h (hn p v), fun p v _ _ h => absurd h (hn p v)⟩
  rw [(List.mem_replicate.1 hs).2, List.length_replicate]
theorem getD_set {α : Type} (l : List α) (i j : Nat) (x d : α) (h : i < l.length) : (l.set i x).getD j d = if j = i then x else l.getD j d := by
  rw [List.getD_eq_getElem?_getD, List.getElem?_set, List.getD_eq_getElem?_getD]
  by_cases e : i = j
  · subst e
    rw [if_pos rfl, if_pos h, if_pos rfl]
    rfl
  · rw [if_neg e, if_neg (fun h => e h.symm)]
theorem idx_inj {F : Fn} {p q : Nat × Nat} (hp : isPt F p) (hq : isPt F q) (h : idx F p = idx F q) : p = q := by
  have h1 := pts_idx hp
  have h2 := pts_idx hq
  rw [h, h2] at h1
  exact (Option.some.inj h1).symm
theorem LInv.step {F : Fn} {xss : List (List Bool)} (h : LInv F xss) {p : Nat × Nat} (hp : isPt F p) : LInv F (xss.set (idx F p) (stp F xss p)) := by
  have hil : idx F p < xss.length := by rw [h.len]; exact idx_lt hp
  have hmono : ∀ q v, isPt F q → v < F.locals.length → inS F xss q v → inS F (xss.set (idx F p) (stp F xss p)) q v := fun q v hq hv hi => by
    unfold inS
    rw [getD_set _ _ _ _ _ hil]
    split
    · rename_i e
      have := idx_inj hq hp e
      subst this
      exact h.grow _ v hq hv hi
    · exact hi
  have hstp : ∀ q v, isPt F q → v < F.locals.length → (stp F xss q).getD v false = true → (stp F (xss.set (idx F p) (stp F xss p)) q).getD v false = true := fun q v hq hv hi => by
    rw [stp_get _ _ _ _ hv] at hi ⊢
    simp only [Bool.or_eq_true, Bool.and_eq_true, List.any_eq_true] at hi ⊢
    rcases hi with h1 | ⟨h1, r, hr, h2⟩
    · exact .inl h1
    · exact .inr ⟨h1, r, hr, hmono r v (next_pt hq hr) hv h2⟩
  refine ⟨by rw [List.length_set]; exact h.len, fun s hs => ?_, fun q v hq hv hi => ?_, fun q v hq hv hi => ?_⟩
  · rcases List.mem_or_eq_of_mem_set hs with h1 | h1
    · exact h.rows s h1
    · rw [h1, stp_len]
  · unfold inS at hi
    rw [getD_set _ _ _ _ _ hil] at hi
    split at hi
    · rename_i e
      have := idx_inj hq hp e
      subst this
      rw [stp_get _ _ _ _ hv] at hi
      simp only [Bool.or_eq_true, Bool.and_eq_true, List.any_eq_true] at hi
      rcases hi with h1 | ⟨h1, r, hr, h2⟩
      · exact .use h1
      · exact .pass (by simpa using h1) hr (h.sub r v (next_pt hq hr) hv h2)
    · exact h.sub q v hq hv hi
  · refine hstp q v hq hv ?_
    unfold inS at hi
    rw [getD_set _ _ _ _ _ hil] at hi
    split at hi
    · rename_i e
      have := idx_inj hq hp e
      subst this
      exact hi
    · exact h.grow q v hq hv hi
theorem bool_lists {xs ys : List Bool} (hl : xs.length = ys.length) (h : ∀ v, v < xs.length → xs.getD v false = ys.getD v false) : xs = ys := by
  apply List.ext_getElem hl
  intro i h1 h2
  have := h i h1
  simpa [List.getD_eq_getElem?_getD, h1, h2] using this
theorem LInv.done {F : Fn} {xss : List (List Bool)} (h : LInv F xss) (hd : ∀ i, i < (pts F).length → stp F xss ((pts F).getD i (0, 0)) = xss.getD i []) : xss = before F := by
  have hb : (before F).length = (pts F).length := before_len F
  apply List.ext_getElem (by rw [h.len, hb])
  intro i h1 h2
  have hi : i < (pts F).length := by rw [← h.len]; exact h1
  have e1 : xss[i] = xss.getD i [] := by simp [List.getD_eq_getElem?_getD, h1]
  have e2 : (before F)[i] = (before F).getD i [] := by simp [List.getD_eq_getElem?_getD, h2]
  rw [e1, e2]
  have hr2 : ((before F).getD i []).length = F.locals.length := before_rows _ (by rw [← e2]; exact List.getElem_mem h2)
  refine bool_lists (by rw [h.row hi, hr2]) fun v hv => ?_
  rw [h.row hi] at hv
  rw [before_at hi hv]
  have hp := pts_at hi
  have hx := idx_pts hi
  obtain ⟨p, hpe⟩ : ∃ p, p = (pts F).getD i (0, 0) := ⟨_, rfl⟩
  rw [← hpe] at hp hx ⊢
  have hin : inS F xss p v ↔ (xss.getD i []).getD v false = true := by unfold inS; rw [hx]
  rw [Bool.eq_iff_iff, ← hin, liveB_iff]
  refine ⟨h.sub p v hp hv, fun hL => ?_⟩
  refine live_least (F := F) (v := v) (fun q => isPt F q → inS F xss q v) (fun q hq hqp => ?_) hL hp
  have h3 := hd _ (idx_lt hqp)
  rw [pts_getD hqp] at h3
  unfold inS
  rw [← h3, stp_get _ _ _ _ hv]
  simp only [Bool.or_eq_true, Bool.and_eq_true, List.any_eq_true]
  rcases hq with h4 | ⟨h4, r, hr, h5⟩
  · exact .inl h4
  · exact .inr ⟨by simp [h4], r, hr, h5 (next_pt hqp hr)⟩
/-! ### How many locals the sets hold -/
def cnt (xss : List (List Bool)) : Nat := (xss.map fun s => s.count true).sum
theorem count_mono : ∀ (xs ys : List Bool), xs.length = ys.length → (∀ v, xs.getD v false = true → ys.getD v false = true) → xs.count true ≤ ys.count true ∧ (xs ≠ ys → xs.count true < ys.count true)
  | [], [], _, _ => ⟨Nat.le_refl _, fun h => absurd rfl h⟩
  | x :: xs, [], h, _ => by simp at h
  | [], y :: ys, h, _ => by simp at h
  | x :: xs, y :: ys, hl, h => by
    obtain ⟨h1, h2⟩ := count_mono xs ys (by simpa using hl) (fun v hv => by simpa using h (v + 1) (by simpa using hv))
    have h0 := h 0
    simp only [List.getD_cons_zero] at h0
    rw [List.count_cons, List.count_cons]
    cases x <;> cases y
    · refine ⟨by simpa using h1, fun hne => ?_⟩
      have := h2 (fun e => hne (by rw [e]))
      simpa using this
    · refine ⟨?_, fun _ => ?_⟩ <;> simp <;> omega
    · exact absurd (h0 rfl) (by simp)
    · refine ⟨by simpa using h1, fun hne => ?_⟩
      have := h2 (fun e => hne (by rw [e]))
      simpa using this
theorem cnt_set : ∀ (xss : List (List Bool)) (i : Nat) (s : List Bool), i < xss.length → cnt (xss.set i s) + (xss.getD i []).count true = cnt xss + s.count true
  | [], i, s, h => by simp at h
  | x :: xss, 0, s, h => by simp [cnt]; omega
  | x :: xss, i + 1, s, h => by
    have := cnt_set xss i s (by simpa using h)
    simp [cnt] at this ⊢
    omega
theorem cnt_le (n : Nat) : ∀ (xss : List (List Bool)), (∀ s, s ∈ xss → s.length = n) → cnt xss ≤ xss.length * n
  | [], _ => by simp [cnt]
  | x :: xss, h => by
    have h1 := cnt_le n xss (fun s hs => h s (List.mem_cons_of_mem _ hs))
    have h2 := h x (by simp)
    have h3 : x.count true ≤ x.length := List.count_le_length
    have e : cnt (x :: xss) = x.count true + cnt xss := by simp [cnt]
    rw [e, List.length_cons, Nat.succ_mul]
    omega
theorem LInv.more {F : Fn} {xss : List (List Bool)} (h : LInv F xss) {p : Nat × Nat} (hp : isPt F p) (hne : stp F xss p ≠ xss.getD (idx F p) []) : cnt xss < cnt (xss.set (idx F p) (stp F xss p)) := by
  have hil : idx F p < xss.length := by rw [h.len]; exact idx_lt hp
  have h1 := cnt_set xss (idx F p) (stp F xss p) hil
  have h2 := (count_mono (xss.getD (idx F p) []) (stp F xss p) (by rw [h.row (idx_lt hp), stp_len]) (fun v hv => by
    by_cases hvn : v < F.locals.length
    · exact h.grow p v hp hvn hv
    · have := h.row (idx_lt hp)
      rw [List.getD_eq_getElem?_getD, List.getElem?_eq_none (by omega)] at hv
      cases hv)).2 (fun e => hne e.symm)
  omega
theorem LInv.bound {F : Fn} {xss : List (List Bool)} (h : LInv F xss) : cnt xss ≤ (pts F).length * F.locals.length := by
  rw [← h.len]
  exact cnt_le _ _ h.rows
end Go.Proofs.YtdkjkgokllmkmaaGreatDoor.Lv
