/- The plain side of solve: a work list of blocks; what it leaves is what is live. -/
import Derived.Test.YtdkjkgokllmkmaaGreatDoorLvu
namespace Go.Proofs.YtdkjkgokllmkmaaGreatDoor.Lv
set_option linter.unusedVariables false
set_option linter.unusedSimpArgs false
def nowK (nb : Nat) (h : Nat → List Bool) (s : List Bool) (l : List Int) : List Bool := l.foldl (fun acc (t : Int) => if 0 ≤ t ∧ t < nb then orL acc (h t.toNat) else acc) s
theorem nowK_snoc (nb : Nat) (h : Nat → List Bool) (s : List Bool) (l : List Int) (t : Int) : nowK nb h s (l ++ [t]) = if 0 ≤ t ∧ t < nb then orL (nowK nb h s l) (h t.toNat) else nowK nb h s l := by
  simp [nowK, List.foldl_append]
theorem nowK_cons (nb : Nat) (h : Nat → List Bool) (s : List Bool) (l : List Int) (t : Int) : nowK nb h s (t :: l) = nowK nb h (if 0 ≤ t ∧ t < nb then orL s (h t.toNat) else s) l := rfl
theorem orL_len (xs ys : List Bool) : (orL xs ys).length = xs.length := orK_len _ _ _
theorem orL_get (xs ys : List Bool) (v : Nat) (hv : v < xs.length) : (orL xs ys).getD v false = (xs.getD v false || ys.getD v false) := by
  unfold orL
  rw [orK_get _ _ _ _ hv, if_pos hv]
theorem nowK_len (nb : Nat) (h : Nat → List Bool) (l : List Int) : ∀ s, (nowK nb h s l).length = s.length := by
  induction l with
  | nil => intro s; rfl
  | cons t l ih =>
    intro s
    rw [nowK_cons, ih]
    split
    · exact orL_len _ _
    · rfl
theorem nowK_get (nb : Nat) (h : Nat → List Bool) (v : Nat) (l : List Int) : ∀ s : List Bool, v < s.length →
    ((nowK nb h s l).getD v false = true ↔ s.getD v false = true ∨ ∃ t ∈ l, (0 ≤ t ∧ t < nb) ∧ (h t.toNat).getD v false = true) := by
  induction l with
  | nil => intro s _; simp [nowK]
  | cons t l ih =>
    intro s hv
    rw [nowK_cons]
    by_cases ht : 0 ≤ t ∧ t < nb
    · rw [if_pos ht, ih _ (by rw [orL_len]; exact hv), orL_get _ _ _ hv, Bool.or_eq_true]
      constructor
      · rintro ((h1 | h1) | ⟨x, hx, h1⟩)
        · exact .inl h1
        · exact .inr ⟨t, by simp, ht, h1⟩
        · exact .inr ⟨x, List.mem_cons_of_mem _ hx, h1⟩
      · rintro (h1 | ⟨x, hx, h1, h2⟩)
        · exact .inl (.inl h1)
        · rcases List.mem_cons.1 hx with rfl | hx
          · exact .inl (.inr h2)
          · exact .inr ⟨x, hx, h1, h2⟩
    · rw [if_neg ht, ih _ hv]
      constructor
      · rintro (h1 | ⟨x, hx, h1⟩)
        · exact .inl h1
        · exact .inr ⟨x, List.mem_cons_of_mem _ hx, h1⟩
      · rintro (h1 | ⟨x, hx, h1, h2⟩)
        · exact .inl h1
        · rcases List.mem_cons.1 hx with rfl | hx
          · exact absurd h1 ht
          · exact .inr ⟨x, hx, h1, h2⟩
theorem nowK_congr (nb : Nat) (h h' : Nat → List Bool) (l : List Int) : ∀ s, (∀ t ∈ l, 0 ≤ t ∧ t < nb → h t.toNat = h' t.toNat) → nowK nb h s l = nowK nb h' s l := by
  induction l with
  | nil => intro s _; rfl
  | cons t l ih =>
    intro s hh
    rw [nowK_cons, nowK_cons]
    have h1 : (if 0 ≤ t ∧ t < nb then orL s (h t.toNat) else s) = (if 0 ≤ t ∧ t < nb then orL s (h' t.toNat) else s) := by
      split
      · rw [hh t (by simp) (by assumption)]
      · rfl
    rw [h1]
    exact ih _ (fun x hx => hh x (List.mem_cons_of_mem _ hx))
/-- The sets of a block, from behind its terminator on. -/
def rowD (F : Fn) (B : Blk) (s : List Bool) : Nat → List Bool
  | 0 => s
  | d + 1 => thr (atB F B (B.code.length - d)) (rowD F B s d)
theorem rowD_len (F : Fn) (B : Blk) (s : List Bool) : ∀ d, (rowD F B s d).length = s.length
  | 0 => rfl
  | d + 1 => by rw [rowD, thr_len, rowD_len F B s d]
def nowOf (F : Fn) (h : Nat → List Bool) (b : Nat) : List Bool := nowK F.blocks.length h (List.replicate F.locals.length false) (F.blk b).fin.targets
def nrow (F : Fn) (h : Nat → List Bool) (b k : Nat) : List Bool := rowD F (F.blk b) (nowOf F h b) ((F.blk b).code.length + 1 - k)
theorem nowOf_len (F : Fn) (h : Nat → List Bool) (b : Nat) : (nowOf F h b).length = F.locals.length := by unfold nowOf; rw [nowK_len, List.length_replicate]
theorem nrow_len (F : Fn) (h : Nat → List Bool) (b k : Nat) : (nrow F h b k).length = F.locals.length := by unfold nrow; rw [rowD_len, nowOf_len]
theorem nrow_last (F : Fn) (h : Nat → List Bool) (b : Nat) : nrow F h b ((F.blk b).code.length + 1) = nowOf F h b := by unfold nrow; rw [Nat.sub_self]; rfl
theorem nrow_step (F : Fn) (h : Nat → List Bool) (b k : Nat) (hk : k ≤ (F.blk b).code.length) : nrow F h b k = thr (at_ F (b, k)) (nrow F h b (k + 1)) := by
  unfold nrow
  have e : (F.blk b).code.length + 1 - k = ((F.blk b).code.length - k) + 1 := by omega
  have e2 : (F.blk b).code.length + 1 - (k + 1) = (F.blk b).code.length - k := by omega
  rw [e, e2, rowD]
  have e3 : (F.blk b).code.length - ((F.blk b).code.length - k) = k := by omega
  rw [e3]
  rfl
theorem nrow_congr (F : Fn) (h h' : Nat → List Bool) (b : Nat) (hh : ∀ t ∈ (F.blk b).fin.targets, 0 ≤ t ∧ t < F.blocks.length → h t.toNat = h' t.toNat) (k : Nat) : nrow F h b k = nrow F h' b k := by
  unfold nrow nowOf
  rw [nowK_congr _ h h' _ _ hh]
theorem nowOf_get (F : Fn) (h : Nat → List Bool) (b v : Nat) (hv : v < F.locals.length) : (nowOf F h b).getD v false = true ↔ ∃ t ∈ (F.blk b).fin.targets, (0 ≤ t ∧ t < F.blocks.length) ∧ (h t.toNat).getD v false = true := by
  unfold nowOf
  rw [nowK_get _ _ _ _ _ (by simpa using hv)]
  simp [List.getD_eq_getElem?_getD, hv]
theorem mem_tgts {F : Fn} {l : List Int} {q : Nat × Nat} : q ∈ tgts F l ↔ ∃ t ∈ l, (0 ≤ t ∧ t < F.blocks.length) ∧ q = (t.toNat, 0) := by
  unfold tgts
  rw [List.mem_filterMap]
  constructor
  · rintro ⟨t, ht, e⟩
    split at e
    · exact ⟨t, ht, by assumption, by simpa using e.symm⟩
    · cases e
  · rintro ⟨t, ht, h, rfl⟩
    exact ⟨t, ht, by rw [if_pos h]⟩
theorem next_end (F : Fn) (b : Nat) : next F (b, (F.blk b).code.length) = tgts F (F.blk b).fin.targets := by unfold next; rw [if_neg (by simp)]
theorem next_in (F : Fn) (b k : Nat) (hk : k < (F.blk b).code.length) : next F (b, k) = [(b, k + 1)] := by unfold next; rw [if_pos hk]
/-- What is live behind a terminator, by the heads. -/
theorem nowOf_sound {F : Fn} {h : Nat → List Bool} {v : Nat} (hv : v < F.locals.length) (hs : ∀ t, t < F.blocks.length → (h t).getD v false = true → Live F v (t, 0)) (b : Nat) (hb : (nowOf F h b).getD v false = true) :
    ∃ q, q ∈ next F (b, (F.blk b).code.length) ∧ Live F v q := by
  obtain ⟨t, ht, hin, hg⟩ := (nowOf_get F h b v hv).1 hb
  rw [next_end]
  exact ⟨(t.toNat, 0), mem_tgts.2 ⟨t, ht, hin, rfl⟩, hs _ (by omega) hg⟩
theorem nrow_sound {F : Fn} {h : Nat → List Bool} {v : Nat} (hv : v < F.locals.length) (hs : ∀ t, t < F.blocks.length → (h t).getD v false = true → Live F v (t, 0)) (b : Nat) :
    ∀ d k, k + d = (F.blk b).code.length → (nrow F h b k).getD v false = true → Live F v (b, k) := by
  intro d
  induction d with
  | zero =>
    intro k hk hg
    obtain rfl : k = (F.blk b).code.length := by omega
    rw [nrow_step _ _ _ _ (Nat.le_refl _), nrow_last, thr_get _ _ _ (by rw [nowOf_len]; exact hv), Bool.or_eq_true, Bool.and_eq_true] at hg
    rcases hg with h1 | ⟨h1, h2⟩
    · exact .use h1
    · obtain ⟨q, hq, hl⟩ := nowOf_sound hv hs b h2
      exact .pass (by simpa using h1) hq hl
  | succ d ih =>
    intro k hk hg
    rw [nrow_step _ _ _ _ (by omega), thr_get _ _ _ (by rw [nrow_len]; exact hv), Bool.or_eq_true, Bool.and_eq_true] at hg
    rcases hg with h1 | ⟨h1, h2⟩
    · exact .use h1
    · exact .pass (by simpa using h1) (by rw [next_in _ _ _ (by omega)]; simp) (ih (k + 1) (by omega) h2)
theorem nowOf_mono {F : Fn} {h h' : Nat → List Bool} {v : Nat} (hv : v < F.locals.length) (hs : ∀ t, t < F.blocks.length → (h t).getD v false = true → (h' t).getD v false = true) (b : Nat) (hg : (nowOf F h b).getD v false = true) :
    (nowOf F h' b).getD v false = true := by
  obtain ⟨t, ht, hin, hg⟩ := (nowOf_get F h b v hv).1 hg
  exact (nowOf_get F h' b v hv).2 ⟨t, ht, hin, hs _ (by omega) hg⟩
theorem nrow_mono {F : Fn} {h h' : Nat → List Bool} {v : Nat} (hv : v < F.locals.length) (hs : ∀ t, t < F.blocks.length → (h t).getD v false = true → (h' t).getD v false = true) (b : Nat) :
    ∀ d k, k + d = (F.blk b).code.length → (nrow F h b k).getD v false = true → (nrow F h' b k).getD v false = true := by
  intro d
  induction d with
  | zero =>
    intro k hk hg
    obtain rfl : k = (F.blk b).code.length := by omega
    rw [nrow_step _ _ _ _ (Nat.le_refl _), nrow_last, thr_get _ _ _ (by rw [nowOf_len]; exact hv), Bool.or_eq_true, Bool.and_eq_true] at hg ⊢
    rcases hg with h1 | ⟨h1, h2⟩
    · exact .inl h1
    · exact .inr ⟨h1, nowOf_mono hv hs b h2⟩
  | succ d ih =>
    intro k hk hg
    rw [nrow_step _ _ _ _ (by omega), thr_get _ _ _ (by rw [nrow_len]; exact hv), Bool.or_eq_true, Bool.and_eq_true] at hg ⊢
    rcases hg with h1 | ⟨h1, h2⟩
    · exact .inl h1
    · exact .inr ⟨h1, ih (k + 1) (by omega) h2⟩

/-! ### The work list -/
/-- The blocks ahead of the block i that lead to b. -/
def predL (F : Fn) (i b : Nat) : List Int := (List.range i).flatMap fun a => ((F.blk a).fin.targets.filter fun t => t == (b : Int)).map fun _ => (a : Int)
theorem predL_succ (F : Fn) (i b : Nat) : predL F (i + 1) b = predL F i b ++ ((F.blk i).fin.targets.filter fun t => t == (b : Int)).map fun _ => (i : Int) := by
  simp [predL, List.range_succ]
theorem mem_predL {F : Fn} {i b : Nat} {x : Int} : x ∈ predL F i b ↔ ∃ a, a < i ∧ x = (a : Int) ∧ (b : Int) ∈ (F.blk a).fin.targets := by
  unfold predL
  rw [List.mem_flatMap]
  constructor
  · rintro ⟨a, ha, hx⟩
    obtain ⟨t, ht, rfl⟩ := List.mem_map.1 hx
    rw [List.mem_filter] at ht
    obtain rfl : t = (b : Int) := by simpa using ht.2
    exact ⟨a, List.mem_range.1 ha, rfl, ht.1⟩
  · rintro ⟨a, ha, rfl, hb⟩
    exact ⟨a, List.mem_range.2 ha, List.mem_map.2 ⟨(b : Int), List.mem_filter.2 ⟨hb, by simp⟩, rfl⟩⟩
theorem predL_len (F : Fn) (b T : Nat) (hT : ∀ a, (F.blk a).fin.targets.length ≤ T) : ∀ i, (predL F i b).length ≤ i * T
  | 0 => by simp [predL]
  | i + 1 => by
    rw [predL_succ, List.length_append, List.length_map]
    have := predL_len F b T hT i
    have h2 : ((F.blk i).fin.targets.filter fun t => t == (b : Int)).length ≤ (F.blk i).fin.targets.length := List.length_filter_le _ _
    have := hT i
    rw [Nat.succ_mul]
    omega
/-- How many locals the heads hold. -/
def cntT (l : List Bool) : Nat := l.countP (fun b => b)
def cntH (h : Nat → List Bool) : Nat → Nat
  | 0 => 0
  | n + 1 => cntH h n + cntT (h n)
theorem cntT_le (l : List Bool) : cntT l ≤ l.length := List.countP_le_length
theorem cntH_le (h : Nat → List Bool) (nl : Nat) : ∀ n, (∀ b, b < n → (h b).length = nl) → cntH h n ≤ n * nl
  | 0, _ => by simp [cntH]
  | n + 1, hh => by
    have := cntH_le h nl n (fun b hb => hh b (by omega))
    have h2 := cntT_le (h n)
    rw [hh n (by omega)] at h2
    rw [cntH, Nat.succ_mul]
    omega
theorem cntT_lt : ∀ (xs ys : List Bool), ys.length = xs.length → (∀ v, v < xs.length → xs.getD v false = true → ys.getD v false = true) → xs ≠ ys → cntT xs < cntT ys
  | [], [], _, _, hn => absurd rfl hn
  | [], y :: ys, hl, _, _ => by simp at hl
  | x :: xs, [], hl, _, _ => by simp at hl
  | x :: xs, y :: ys, hl, hm, hn => by
    have hl' : ys.length = xs.length := by simpa using hl
    have hm' : ∀ v, v < xs.length → xs.getD v false = true → ys.getD v false = true := fun v hv h => by
      have := hm (v + 1) (by simp; omega) (by simpa using h)
      simpa using this
    have h0 : x = true → y = true := fun h => by
      have := hm 0 (by simp) (by simpa using h)
      simpa using this
    by_cases he : xs = ys
    · subst he
      cases x <;> cases y
      · exact absurd rfl hn
      · simp [cntT]
      · exact absurd (h0 rfl) (by simp)
      · exact absurd rfl hn
    · have := cntT_lt xs ys hl' hm' he
      cases x <;> cases y
      · simpa [cntT] using this
      · simp [cntT] at this ⊢; omega
      · exact absurd (h0 rfl) (by simp)
      · simpa [cntT] using this
theorem cntH_congr (h h' : Nat → List Bool) : ∀ n, (∀ b, b < n → h b = h' b) → cntH h n = cntH h' n
  | 0, _ => rfl
  | n + 1, hh => by rw [cntH, cntH, cntH_congr h h' n (fun b hb => hh b (by omega)), hh n (by omega)]
theorem cntH_set (h : Nat → List Bool) (i : Nat) (s : List Bool) : ∀ n, i < n → cntH (fun b => if b = i then s else h b) n + cntT (h i) = cntH h n + cntT s
  | 0, hi => by omega
  | n + 1, hi => by
    rw [cntH, cntH]
    by_cases e : i = n
    · subst e
      rw [if_pos rfl, cntH_congr (fun b => if b = i then s else h b) h i (fun b hb => by rw [if_neg (by omega)])]
      omega
    · have := cntH_set h i s n (by omega)
      rw [if_neg (by omega)]
      omega
structure PInv (F : Fn) (E : Nat) (tab : Nat → Nat → List Bool) (q : List Int) : Prop where
  len : ∀ b, b < F.blocks.length → ∀ k, k < (F.blk b).code.length + 2 → (tab b k).length = F.locals.length
  qlt : ∀ x ∈ q, 0 ≤ x ∧ x < F.blocks.length
  sound : ∀ b, b < F.blocks.length → ∀ k, k ≤ (F.blk b).code.length → ∀ v, v < F.locals.length → (tab b k).getD v false = true → Live F v (b, k)
  soundA : ∀ b, b < F.blocks.length → ∀ v, v < F.locals.length → (tab b ((F.blk b).code.length + 1)).getD v false = true → ∃ p, p ∈ next F (b, (F.blk b).code.length) ∧ Live F v p
  cons : ∀ b, b < F.blocks.length → (b : Int) ∉ q → ∀ k, k < (F.blk b).code.length + 2 → tab b k = nrow F (fun t => tab t 0) b k
  pre : ∀ b, b < F.blocks.length → ∀ v, v < F.locals.length → (tab b 0).getD v false = true → (nrow F (fun t => tab t 0) b 0).getD v false = true
  qlen : q.length ≤ F.blocks.length + cntH (fun t => tab t 0) F.blocks.length * E
def pmeas (F : Fn) (E : Nat) (tab : Nat → Nat → List Bool) (q : List Int) : Nat := (F.blocks.length * F.locals.length - cntH (fun t => tab t 0) F.blocks.length) * (E + 1) + q.length
def tabSet (F : Fn) (tab : Nat → Nat → List Bool) (i : Nat) : Nat → Nat → List Bool := fun b k => if b = i then nrow F (fun t => tab t 0) i k else tab b k
theorem tabSet_head (F : Fn) (tab : Nat → Nat → List Bool) (i : Nat) : (fun t => tabSet F tab i t 0) = fun b => if b = i then nrow F (fun t => tab t 0) i 0 else tab b 0 := rfl
theorem pinit (F : Fn) (E : Nat) (tab : Nat → Nat → List Bool) (q : List Int) (ht : ∀ b k, tab b k = List.replicate F.locals.length false) (hq : ∀ x ∈ q, 0 ≤ x ∧ x < F.blocks.length)
    (hall : ∀ b, b < F.blocks.length → (b : Int) ∈ q) (hl : q.length = F.blocks.length) : PInv F E tab q := by
  have hf : ∀ b k v, v < F.locals.length → (tab b k).getD v false = true → False := by
    intro b k v hv h
    rw [ht] at h
    simp [List.getD_eq_getElem?_getD, hv] at h
  exact ⟨fun b _ k _ => by rw [ht]; simp, hq, fun b _ k _ v hv h => (hf _ _ _ hv h).elim, fun b _ v hv h => (hf _ _ _ hv h).elim, fun b hb hn => absurd (hall b hb) hn, fun b _ v hv h => (hf _ _ _ hv h).elim, by rw [hl]; exact Nat.le_add_right _ _⟩
theorem pstep {F : Fn} {E : Nat} {tab : Nat → Nat → List Bool} {i : Nat} {q : List Int} (h : PInv F E tab ((i : Int) :: q)) (hE : (predL F F.blocks.length i).length ≤ E) :
    let tab' := tabSet F tab i
    let q' := if tab i 0 = nrow F (fun t => tab t 0) i 0 then q else q ++ predL F F.blocks.length i
    PInv F E tab' q' ∧ pmeas F E tab' q' < pmeas F E tab ((i : Int) :: q) := by
  intro tab' q'
  have hi : i < F.blocks.length := by have := h.qlt (i : Int) (by simp); omega
  have hh' : (fun t => tab' t 0) = fun b => if b = i then nrow F (fun t => tab t 0) i 0 else tab b 0 := rfl
  have hmono : ∀ v, v < F.locals.length → ∀ t, t < F.blocks.length → (tab t 0).getD v false = true → (tab' t 0).getD v false = true := by
    intro v hv t ht hg
    show (if t = i then nrow F (fun t => tab t 0) i 0 else tab t 0).getD v false = true
    by_cases e : t = i
    · rw [if_pos e]
      subst e
      exact h.pre _ ht v hv hg
    · rw [if_neg e]
      exact hg
  have hrs : ∀ b, b < F.blocks.length → ∀ v, v < F.locals.length → (nrow F (fun t => tab t 0) b 0).getD v false = true → (nrow F (fun t => tab' t 0) b 0).getD v false = true :=
    fun b hb v hv hg => nrow_mono (h := fun t => tab t 0) (h' := fun t => tab' t 0) hv (hmono v hv) b (F.blk b).code.length 0 (Nat.zero_add _) hg
  have hhs : ∀ v, v < F.locals.length → ∀ t, t < F.blocks.length → (tab t 0).getD v false = true → Live F v (t, 0) := fun v hv t ht hg => h.sound t ht 0 (Nat.zero_le _) v hv hg
  have hcnt : cntH (fun t => tab' t 0) F.blocks.length + cntT (tab i 0) = cntH (fun t => tab t 0) F.blocks.length + cntT (nrow F (fun t => tab t 0) i 0) := by
    rw [hh']
    exact cntH_set (fun t => tab t 0) i _ _ hi
  have hlen' : ∀ b, b < F.blocks.length → ∀ k, k < (F.blk b).code.length + 2 → (tab' b k).length = F.locals.length := by
    intro b hb k hk
    show (if b = i then nrow F (fun t => tab t 0) i k else tab b k).length = _
    split
    · exact nrow_len _ _ _ _
    · exact h.len b hb k hk
  have hcle : cntH (fun t => tab' t 0) F.blocks.length ≤ F.blocks.length * F.locals.length := cntH_le _ _ _ (fun b hb => hlen' b hb 0 (by omega))
  have hql := h.qlen
  rw [List.length_cons] at hql
  have hbase : (∀ b, b < F.blocks.length → ∀ k, k ≤ (F.blk b).code.length → ∀ v, v < F.locals.length → (tab' b k).getD v false = true → Live F v (b, k)) ∧
      (∀ b, b < F.blocks.length → ∀ v, v < F.locals.length → (tab' b ((F.blk b).code.length + 1)).getD v false = true → ∃ p, p ∈ next F (b, (F.blk b).code.length) ∧ Live F v p) ∧
      (∀ b, b < F.blocks.length → ∀ v, v < F.locals.length → (tab' b 0).getD v false = true → (nrow F (fun t => tab' t 0) b 0).getD v false = true) := by
    refine ⟨?_, ?_, ?_⟩
    · intro b hb k hk v hv hg
      by_cases e : b = i
      · subst e
        rw [show tab' b k = nrow F (fun t => tab t 0) b k from if_pos rfl] at hg
        exact nrow_sound (h := fun t => tab t 0) hv (hhs v hv) b ((F.blk b).code.length - k) k (by omega) hg
      · rw [show tab' b k = tab b k from if_neg e] at hg
        exact h.sound b hb k hk v hv hg
    · intro b hb v hv hg
      by_cases e : b = i
      · subst e
        rw [show tab' b ((F.blk b).code.length + 1) = nrow F (fun t => tab t 0) b ((F.blk b).code.length + 1) from if_pos rfl, nrow_last] at hg
        exact nowOf_sound (h := fun t => tab t 0) hv (hhs v hv) b hg
      · rw [show tab' b ((F.blk b).code.length + 1) = tab b ((F.blk b).code.length + 1) from if_neg e] at hg
        exact h.soundA b hb v hv hg
    · intro b hb v hv hg
      by_cases e : b = i
      · subst e
        rw [show tab' b 0 = nrow F (fun t => tab t 0) b 0 from if_pos rfl] at hg
        exact hrs b hb v hv hg
      · rw [show tab' b 0 = tab b 0 from if_neg e] at hg
        exact hrs b hb v hv (h.pre b hb v hv hg)
  by_cases hsame : tab i 0 = nrow F (fun t => tab t 0) i 0
  · have hq' : q' = q := if_pos hsame
    have hheads : (fun t => tab' t 0) = fun t => tab t 0 := by
      rw [hh']
      funext b
      split
      · rename_i e
        rw [e]
        exact hsame.symm
      · rfl
    rw [← hsame] at hcnt
    refine ⟨⟨hlen', fun x hx => h.qlt x (List.mem_cons_of_mem _ (by rw [hq'] at hx; exact hx)), hbase.1, hbase.2.1, ?_, hbase.2.2, by rw [hq', hheads]; omega⟩, ?_⟩
    · intro b hb hn k hk
      rw [hq'] at hn
      rw [hheads]
      by_cases e : b = i
      · subst e
        exact if_pos rfl
      · rw [show tab' b k = tab b k from if_neg e]
        exact h.cons b hb (fun hm => (List.mem_cons.1 hm).elim (fun e' => e (by omega)) hn) k hk
    · unfold pmeas
      rw [hheads, hq', List.length_cons]
      omega
  · have hq' : q' = q ++ predL F F.blocks.length i := if_neg hsame
    have hlt : cntT (tab i 0) < cntT (nrow F (fun t => tab t 0) i 0) :=
      cntT_lt _ _ (by rw [nrow_len, h.len i hi 0 (by omega)]) (fun v hv hg => h.pre i hi v (by rw [h.len i hi 0 (by omega)] at hv; exact hv) hg) hsame
    have hc2 : cntH (fun t => tab t 0) F.blocks.length + 1 ≤ cntH (fun t => tab' t 0) F.blocks.length := by omega
    have hm : (cntH (fun t => tab t 0) F.blocks.length + 1) * E ≤ cntH (fun t => tab' t 0) F.blocks.length * E := Nat.mul_le_mul_right _ hc2
    rw [Nat.add_mul, Nat.one_mul] at hm
    refine ⟨⟨hlen', ?_, hbase.1, hbase.2.1, ?_, hbase.2.2, by rw [hq', List.length_append]; omega⟩, ?_⟩
    · intro x hx
      rw [hq'] at hx
      rcases List.mem_append.1 hx with hx | hx
      · exact h.qlt x (List.mem_cons_of_mem _ hx)
      · obtain ⟨a, ha, rfl, _⟩ := mem_predL.1 hx
        omega
    · intro b hb hn k hk
      rw [hq'] at hn
      have hnt : ∀ t ∈ (F.blk b).fin.targets, 0 ≤ t ∧ t < F.blocks.length → (fun t => tab t 0) t.toNat = (fun t => tab' t 0) t.toNat := by
        intro t ht hin
        have hti : t.toNat ≠ i := fun e => hn (List.mem_append.2 (.inr (mem_predL.2 ⟨b, hb, rfl, by rw [← e, Int.toNat_of_nonneg hin.1]; exact ht⟩)))
        exact (if_neg hti).symm
      rw [← nrow_congr F (fun t => tab t 0) (fun t => tab' t 0) b hnt]
      by_cases e : b = i
      · subst e
        exact if_pos rfl
      · rw [show tab' b k = tab b k from if_neg e]
        exact h.cons b hb (fun hm => (List.mem_cons.1 hm).elim (fun e' => e (by omega)) (fun hm => hn (List.mem_append.2 (.inl hm)))) k hk
    · unfold pmeas
      rw [hq', List.length_append, List.length_cons]
      have hx : (F.blocks.length * F.locals.length - cntH (fun t => tab' t 0) F.blocks.length) + 1 ≤ F.blocks.length * F.locals.length - cntH (fun t => tab t 0) F.blocks.length := by omega
      have := Nat.mul_le_mul_right (E + 1) hx
      rw [Nat.add_mul, Nat.one_mul] at this
      omega
/-- At the end: what is live. -/
theorem pdone {F : Fn} {E : Nat} {tab : Nat → Nat → List Bool} (h : PInv F E tab []) {b v : Nat} (hb : b < F.blocks.length) (hv : v < F.locals.length) :
    (∀ k, k ≤ (F.blk b).code.length → (tab b k).getD v false = liveB F (b, k) v) ∧ (tab b ((F.blk b).code.length + 1)).getD v false = afterB F (b, (F.blk b).code.length) v := by
  have hc : ∀ b, b < F.blocks.length → ∀ k, k < (F.blk b).code.length + 2 → tab b k = nrow F (fun t => tab t 0) b k := fun b hb => h.cons b hb (by simp)
  have hlast : ∀ b, b < F.blocks.length → ∀ q, q ∈ next F (b, (F.blk b).code.length) → q.1 < F.blocks.length ∧ (∀ u, (tab q.1 q.2).getD u false = true → u < F.locals.length → (tab b ((F.blk b).code.length + 1)).getD u false = true) := by
    intro b hb q hq
    rw [next_end] at hq
    obtain ⟨t, ht, hin, rfl⟩ := mem_tgts.1 hq
    refine ⟨by simp only; omega, fun u hu hul => ?_⟩
    rw [hc b hb _ (by omega), nrow_last]
    exact (nowOf_get F _ b u hul).2 ⟨t, ht, hin, hu⟩
  have hcomp : ∀ p : Nat × Nat, Live F v p → p.1 < F.blocks.length → p.2 ≤ (F.blk p.1).code.length → (tab p.1 p.2).getD v false = true := by
    intro p hl
    induction hl with
    | @use p hu =>
      intro h1 h2
      obtain ⟨b, k⟩ := p
      simp only at h1 h2
      show (tab b k).getD v false = true
      rw [hc b h1 k (by omega), nrow_step _ _ _ _ h2, thr_get _ _ _ (by rw [nrow_len]; exact hv), hu]
      rfl
    | @pass p q hd hq _ ih =>
      intro h1 h2
      obtain ⟨b, k⟩ := p
      simp only at h1 h2
      show (tab b k).getD v false = true
      rw [hc b h1 k (by omega), nrow_step _ _ _ _ h2, thr_get _ _ _ (by rw [nrow_len]; exact hv), hd]
      by_cases hk : k < (F.blk b).code.length
      · rw [next_in _ _ _ hk, List.mem_singleton] at hq
        subst hq
        have := ih h1 (by simp only; omega)
        simp only at this
        rw [← hc b h1 (k + 1) (by omega), this]
        simp
      · obtain rfl : k = (F.blk b).code.length := by omega
        obtain ⟨a1, a2⟩ := hlast b h1 q hq
        have hq2 : q.2 = 0 := by
          rw [next_end] at hq
          obtain ⟨t, ht, hin, rfl⟩ := mem_tgts.1 hq
          rfl
        have := a2 v (ih a1 (by omega)) hv
        rw [← hc b h1 _ (by omega), this]
        simp
  refine ⟨fun k hk => ?_, ?_⟩
  · rw [Bool.eq_iff_iff, liveB_iff]
    exact ⟨h.sound b hb k hk v hv, fun hl => hcomp _ hl hb hk⟩
  · rw [Bool.eq_iff_iff]
    constructor
    · intro hg
      obtain ⟨p, hp, hl⟩ := h.soundA b hb v hv hg
      unfold afterB
      rw [List.any_eq_true]
      exact ⟨p, hp, liveB_iff.2 hl⟩
    · intro hg
      unfold afterB at hg
      rw [List.any_eq_true] at hg
      obtain ⟨p, hp, hl⟩ := hg
      obtain ⟨a1, a2⟩ := hlast b hb p hp
      have hq2 : p.2 = 0 := by
        rw [next_end] at hp
        obtain ⟨t, ht, hin, rfl⟩ := mem_tgts.1 hp
        rfl
      exact a2 v (hcomp p (liveB_iff.1 hl) a1 (by omega)) hv
end Go.Proofs.YtdkjkgokllmkmaaGreatDoor.Lv
