/- LivenessPaths, plain: the search along paths. -/
import Derived.Test.YtdkjkgokllmkmaaGreatDoorLxb
namespace Go.Proofs.YtdkjkgokllmkmaaGreatDoor.Lv
set_option linter.unusedVariables false
set_option linter.unusedSimpArgs false
theorem ptsU_at' (F : Fn) : ∀ b i, i < offs F b → ∃ q, (ptsU F b)[i]? = some q ∧ idx F q = i := by
  intro b
  induction b with
  | zero => intro i h; simp [offs] at h
  | succ b ih =>
    intro i h
    rw [ptsU_succ]
    rw [offs_succ] at h
    by_cases hi : i < offs F b
    · obtain ⟨q, h1, h2⟩ := ih i hi
      exact ⟨q, by rw [List.getElem?_append_left (by rw [ptsU_len]; exact hi)]; exact h1, h2⟩
    · refine ⟨(b, i - offs F b), ?_, ?_⟩
      · rw [List.getElem?_append_right (by rw [ptsU_len]; omega), ptsU_len]
        have : i - offs F b < (F.blk b).code.length + 1 := by omega
        simp [ptsB, this]
      · unfold idx
        simp only
        omega
theorem idx_pts' {F : Fn} {i : Nat} (h : i < (pts F).length) : idx F ((pts F).getD i (0, 0)) = i := by
  obtain ⟨q, h1, h2⟩ := ptsU_at' F F.blocks.length i (by rw [← pts_len]; exact h)
  rw [pts_eq, List.getD_eq_getElem?_getD, h1]
  exact h2
theorem pts_getD' {F : Fn} {q : Nat × Nat} (h : isPt F q) : (pts F).getD (idx F q) (0, 0) = q := by
  rw [List.getD_eq_getElem?_getD, pts_idx h]
  rfl
theorem next_len {F : Fn} (hs : Szd F) {p : Nat × Nat} (hp : isPt F p) : (next F p).length ≤ 20 := by
  unfold next
  split
  · simp
  · unfold tgts
    have h1 := hs.targets (F.blk p.1) (getD_mem hp.1)
    have h2 := List.length_filterMap_le (fun (t : Int) => if 0 ≤ t ∧ t < F.blocks.length then some (t.toNat, 0) else none) (F.blk p.1).fin.targets
    exact Nat.le_trans h2 h1
def ptOf (F : Fn) (n : Nat) : Nat × Nat := (pts F).getD n (0, 0)
theorem ptOf_pt {F : Fn} {n : Nat} (h : n < (pts F).length) : isPt F (ptOf F n) := pts_at h
theorem ptOf_idx {F : Fn} {q : Nat × Nat} (h : isPt F q) : ptOf F (idx F q) = q := pts_getD' h
/-- Where the search stands: what has been seen, what is to do, how much of it is done. -/
structure PI (F : Fn) (v first : Nat) (S : Nat → Bool) (T : List Nat) (i : Nat) (want : Bool) : Prop where
  lt : ∀ q, q ∈ T → q < (pts F).length
  live : ∀ q, q ∈ T → Live F v (ptOf F q) → Live F v (ptOf F first)
  mem : first ∈ T
  le : i ≤ T.length
  done : want = false → ∀ j n, j < i → T[j]? = some n → S n = true
  seen : want = false → ∀ n, S n = true → n < (pts F).length ∧ (at_ F (ptOf F n)).used v = false ∧ ((at_ F (ptOf F n)).defd v = false → ∀ q, q ∈ next F (ptOf F n) → idx F q ∈ T)
  yes : want = true → Live F v (ptOf F first)
theorem PI.start {F : Fn} {v first : Nat} (h : first < (pts F).length) : PI F v first (fun _ => false) [first] 0 false :=
  ⟨(fun q hq => by rw [List.mem_singleton] at hq; omega), (fun q hq hl => by rw [List.mem_singleton] at hq; rw [← hq]; exact hl), (by simp), Nat.zero_le _, (fun _ j n hj => by omega), (fun _ n hn => by cases hn), (fun h => by cases h)⟩
theorem PI.result {F : Fn} {v first : Nat} {S : Nat → Bool} {T : List Nat} {i : Nat} {want : Bool} (h : PI F v first S T i want) (he : want = true ∨ i = T.length) : liveB F (ptOf F first) v = want := by
  cases hw : want with
  | true => exact liveB_iff.2 (h.yes hw)
  | false =>
    rcases he with he | he
    · rw [hw] at he; cases he
    · cases hl : liveB F (ptOf F first) v with
      | false => rfl
      | true =>
        exfalso
        rw [liveB_iff] at hl
        have hmf := h.lt _ h.mem
        refine live_least (F := F) (v := v) (fun p => ¬ (isPt F p ∧ idx F p ∈ T)) (fun p hp hpt => ?_) hl ⟨ptOf_pt hmf, by unfold ptOf; rw [idx_pts' hmf]; exact h.mem⟩
        obtain ⟨hpt, hm⟩ := hpt
        obtain ⟨j, hj, hjn⟩ := List.mem_iff_getElem.1 hm
        have hS := h.done hw j (idx F p) (by omega) (by rw [List.getElem?_eq_getElem hj, hjn])
        obtain ⟨_, h2, h3⟩ := h.seen hw _ hS
        rw [ptOf_idx hpt] at h2 h3
        rcases hp with h4 | ⟨h4, q, hq, h5⟩
        · rw [h4] at h2; cases h2
        · exact h5 ⟨next_pt hpt hq, h3 h4 q hq⟩
def setS (S : Nat → Bool) (n : Nat) : Nat → Bool := fun m => if m = n then true else S m
/-- A number that has been seen is passed over. -/
theorem PI.skip {F : Fn} {v first : Nat} {S : Nat → Bool} {T : List Nat} {i : Nat} (h : PI F v first S T i false) {n : Nat} (hi : T[i]? = some n) (hs : S n = true) : PI F v first S T (i + 1) false := by
  have hil := (List.getElem?_eq_some_iff.1 hi).1
  refine ⟨h.lt, h.live, h.mem, hil, fun _ j m hj hm => ?_, h.seen, h.yes⟩
  by_cases e : j = i
  · subst e
    rw [hi] at hm
    simp only [Option.some.injEq] at hm
    rw [← hm]
    exact hs
  · exact h.done rfl j m (by omega) hm
/-- It is used there. -/
theorem PI.used {F : Fn} {v first : Nat} {S : Nat → Bool} {T : List Nat} {i : Nat} (h : PI F v first S T i false) {n : Nat} (hi : T[i]? = some n) (hu : (at_ F (ptOf F n)).used v = true) {T' : List Nat} (hT : ∀ q, q ∈ T' → q ∈ T ∨ q < (pts F).length ∧ (Live F v (ptOf F q) → Live F v (ptOf F first))) (hsub : ∀ q, q ∈ T → q ∈ T') (S' : Nat → Bool) {i' : Nat} (hi' : i' ≤ T'.length) : PI F v first S' T' i' true := by
  have hn : n ∈ T := List.mem_of_getElem? hi
  refine ⟨fun q hq => ?_, fun q hq hl => ?_, hsub _ h.mem, hi', (fun h => by cases h), (fun h => by cases h), fun _ => h.live n hn (.use hu)⟩
  · rcases hT q hq with h1 | h1
    · exact h.lt q h1
    · exact h1.1
  · rcases hT q hq with h1 | h1
    · exact h.live q h1 hl
    · exact h1.2 hl
/-- It is defined there, not used. -/
theorem PI.defd {F : Fn} {v first : Nat} {S : Nat → Bool} {T : List Nat} {i : Nat} (h : PI F v first S T i false) {n : Nat} (hi : T[i]? = some n) (hu : (at_ F (ptOf F n)).used v = false) (hd : (at_ F (ptOf F n)).defd v = true) : PI F v first (setS S n) T (i + 1) false := by
  have hil := (List.getElem?_eq_some_iff.1 hi).1
  refine ⟨h.lt, h.live, h.mem, hil, fun _ j m hj hm => ?_, fun _ m hm => ?_, h.yes⟩
  · unfold setS
    split
    · rfl
    · rename_i hne
      by_cases e : j = i
      · subst e
        rw [hi] at hm
        simp only [Option.some.injEq] at hm
        exact absurd hm.symm hne
      · exact h.done rfl j m (by omega) hm
  · unfold setS at hm
    split at hm
    · rename_i e
      subst e
      exact ⟨h.lt _ (List.mem_of_getElem? hi), hu, fun h2 => by rw [hd] at h2; cases h2⟩
    · exact h.seen rfl m hm
/-- It is passed on to what follows. -/
theorem PI.pass {F : Fn} {v first : Nat} {S : Nat → Bool} {T : List Nat} {i : Nat} (h : PI F v first S T i false) {n : Nat} (hi : T[i]? = some n) (hu : (at_ F (ptOf F n)).used v = false) (hd : (at_ F (ptOf F n)).defd v = false) : PI F v first (setS S n) (T ++ (next F (ptOf F n)).map (idx F)) (i + 1) false := by
  have hil := (List.getElem?_eq_some_iff.1 hi).1
  have hnm : n ∈ T := List.mem_of_getElem? hi
  have hnp := ptOf_pt (h.lt _ hnm)
  refine ⟨fun q hq => ?_, fun q hq hl => ?_, List.mem_append_left _ h.mem, by rw [List.length_append]; omega, fun _ j m hj hm => ?_, fun _ m hm => ?_, h.yes⟩
  · rcases List.mem_append.1 hq with h1 | h1
    · exact h.lt q h1
    · obtain ⟨r, hr, rfl⟩ := List.mem_map.1 h1
      exact idx_lt (next_pt hnp hr)
  · rcases List.mem_append.1 hq with h1 | h1
    · exact h.live q h1 hl
    · obtain ⟨r, hr, rfl⟩ := List.mem_map.1 h1
      rw [ptOf_idx (next_pt hnp hr)] at hl
      exact h.live n hnm (.pass hd hr hl)
  · rw [List.getElem?_append_left (by omega)] at hm
    unfold setS
    split
    · rfl
    · rename_i hne
      by_cases e : j = i
      · subst e
        rw [hi] at hm
        simp only [Option.some.injEq] at hm
        exact absurd hm.symm hne
      · exact h.done rfl j m (by omega) hm
  · unfold setS at hm
    split at hm
    · rename_i e
      subst e
      exact ⟨h.lt _ hnm, hu, fun _ q hq => List.mem_append_right _ (List.mem_map.2 ⟨q, hq, rfl⟩)⟩
    · obtain ⟨h1, h2, h3⟩ := h.seen rfl m hm
      exact ⟨h1, h2, fun h4 q hq => List.mem_append_left _ (h3 h4 q hq)⟩
/-- How many have not been seen. -/
def uns (S : Nat → Bool) (n : Nat) : Nat := (List.range n).countP fun m => !S m
theorem uns_set (S : Nat → Bool) (k : Nat) (hS : S k = false) : ∀ n, k < n → uns (setS S k) n + 1 = uns S n := by
  intro n
  induction n with
  | zero => intro h; omega
  | succ n ih =>
    intro h
    unfold uns at ih ⊢
    rw [List.range_succ, List.countP_append, List.countP_append]
    by_cases e : k = n
    · subst e
      have h1 : (List.range k).countP (fun m => !setS S k m) = (List.range k).countP fun m => !S m := by
        refine List.countP_congr (fun m hm => ?_)
        have := List.mem_range.1 hm
        unfold setS
        rw [if_neg (by omega)]
      rw [h1]
      simp [setS, hS]
    · have h1 := ih (by omega)
      have h2 : (setS S k n) = S n := by unfold setS; rw [if_neg (by omega)]
      simp only [List.countP_cons, List.countP_nil, h2]
      omega
theorem uns_le (S : Nat → Bool) (n : Nat) : uns S n ≤ n := by
  unfold uns
  have := List.countP_le_length (p := fun m => !S m) (l := List.range n)
  rwa [List.length_range] at this
end Go.Proofs.YtdkjkgokllmkmaaGreatDoor.Lv
