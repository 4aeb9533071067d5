/- LivenessInserted, plain: a further instruction at the beginning of a block. -/
import Derived.Test.YtdkjkgokllmkmaaGreatDoorLxb
import Derived.Test.YtdkjkgokllmkmaaGreatDoorLwm
namespace Go.Proofs.YtdkjkgokllmkmaaGreatDoor.Lv
set_option linter.unusedVariables false
set_option linter.unusedSimpArgs false
/-- The function with an instruction ahead of a block's others. -/
def insB (F : Fn) (b : Nat) (x : Ins) : Fn := { F with blocks := F.blocks.set b { (F.blk b) with code := x :: (F.blk b).code } }
theorem insB_nb (F : Fn) (b : Nat) (x : Ins) : (insB F b x).blocks.length = F.blocks.length := by simp [insB]
theorem insB_same (F : Fn) (b : Nat) (x : Ins) (h : b < F.blocks.length) : (insB F b x).blk b = { (F.blk b) with code := x :: (F.blk b).code } := by
  show (F.blocks.set b _).getD b default = _
  rw [List.getD_eq_getElem?_getD, List.getElem?_set_self h]
  rfl
theorem insB_other (F : Fn) (b : Nat) (x : Ins) {a : Nat} (h : a ≠ b) : (insB F b x).blk a = F.blk a := by
  show (F.blocks.set b _).getD a default = F.blocks.getD a default
  rw [List.getD_eq_getElem?_getD, List.getElem?_set_ne (fun e => h e.symm), List.getD_eq_getElem?_getD]
/-- Where a point has gone. -/
def sh (b : Nat) (p : Nat × Nat) : Nat × Nat := if p.1 = b then (p.1, p.2 + 1) else p
theorem takes_ins (F : Fn) (b : Nat) (x : Ins) (l : List Int) : ∀ u, takes (insB F b x) u l = takes F u l := by
  induction l with
  | nil => intro u; rfl
  | cons n l ih =>
    intro u
    show takes (insB F b x) (take1 (insB F b x) u n) l = takes F (take1 F u n) l
    rw [ih]
    rfl
theorem usesOf_ins (F : Fn) (b : Nat) (x y : Ins) : usesOf (insB F b x) y = usesOf F y := by
  unfold usesOf
  simp only [takes_ins]
  rfl
theorem endsOf_ins (F : Fn) (b : Nat) (x : Ins) (t : Term) : endsOf (insB F b x) t = endsOf F t := by
  unfold endsOf
  simp only [takes_ins]
theorem at_ins (F : Fn) (b : Nat) (x : Ins) (h : b < F.blocks.length) (p : Nat × Nat) : at_ (insB F b x) (sh b p) = at_ F p := by
  unfold sh at_
  by_cases e : p.1 = b
  · rw [if_pos e, e, insB_same F b x h]
    unfold atB
    simp only [List.length_cons, usesOf_ins, endsOf_ins, Nat.add_lt_add_iff_right, List.getD_cons_succ]
  · rw [if_neg e, insB_other F b x e]
    unfold atB
    simp only [usesOf_ins, endsOf_ins]
theorem at_ins0 (F : Fn) (b : Nat) (x : Ins) (h : b < F.blocks.length) : at_ (insB F b x) (b, 0) = usesOf F x := by
  unfold at_
  rw [show (b, 0).1 = b from rfl, insB_same F b x h]
  unfold atB
  simp only [List.length_cons, usesOf_ins, List.getD_cons_zero]
  rw [if_pos (by omega)]
theorem tgts_ins (F : Fn) (b : Nat) (x : Ins) (l : List Int) : tgts (insB F b x) l = tgts F l := by
  unfold tgts
  rw [insB_nb]
theorem next_ins0 (F : Fn) (b : Nat) (x : Ins) (h : b < F.blocks.length) : next (insB F b x) (b, 0) = [(b, 1)] := by
  unfold next
  rw [show (b, 0).1 = b from rfl, insB_same F b x h]
  rw [if_pos (by simp)]
/-- What follows a point that has gone: as before, but that a block's beginning is not shifted. -/
theorem next_ins (F : Fn) (b : Nat) (x : Ins) (h : b < F.blocks.length) (p : Nat × Nat) : next (insB F b x) (sh b p) = if p.2 < (F.blk p.1).code.length then (next F p).map (sh b) else next F p := by
  unfold next sh
  by_cases e : p.1 = b
  · rw [if_pos e, e, insB_same F b x h]
    simp only [List.length_cons, Nat.add_lt_add_iff_right, tgts_ins]
    split
    · simp
    · rfl
  · rw [if_neg e, insB_other F b x e]
    simp only [tgts_ins]
    split
    · simp [e]
    · rfl
theorem tgts_zero {F : Fn} {l : List Int} {q : Nat × Nat} (h : q ∈ tgts F l) : q.2 = 0 := by
  unfold tgts at h
  obtain ⟨t, _, e⟩ := List.mem_filterMap.1 h
  split at e
  · simp only [Option.some.injEq] at e
    rw [← e]
  · cases e
theorem live_to {F : Fn} {b : Nat} {x : Ins} (h : b < F.blocks.length) {v : Nat} (hx : (usesOf F x).defd v = false) {p : Nat × Nat} (hp : Live F v p) : Live (insB F b x) v (sh b p) := by
  have hz : ∀ q, Live (insB F b x) v (sh b q) → q.2 = 0 → Live (insB F b x) v q := fun q hq h0 => by
    unfold sh at hq
    split at hq
    · rename_i e
      obtain ⟨a, i⟩ := q
      simp only at e h0 hq
      subst e h0
      exact .pass (by rw [at_ins0 F a x h]; exact hx) (by rw [next_ins0 F a x h]; simp) hq
    · exact hq
  induction hp with
  | use hu => exact .use (by rw [at_ins F b x h]; exact hu)
  | @pass p q hd hq _ ih =>
    have hn := next_ins F b x h p
    by_cases hc : p.2 < (F.blk p.1).code.length
    · rw [if_pos hc] at hn
      exact .pass (q := sh b q) (by rw [at_ins F b x h]; exact hd) (by rw [hn]; exact List.mem_map.2 ⟨q, hq, rfl⟩) ih
    · rw [if_neg hc] at hn
      have h0 : q.2 = 0 := by
        unfold next at hq
        rw [if_neg hc] at hq
        exact tgts_zero hq
      exact .pass (q := q) (by rw [at_ins F b x h]; exact hd) (by rw [hn]; exact hq) (hz q ih h0)
theorem sh_inj {b : Nat} {p q : Nat × Nat} (h : sh b p = sh b q) : p = q := by
  obtain ⟨a, i⟩ := p
  obtain ⟨c, j⟩ := q
  unfold sh at h
  simp only at h
  split at h <;> split at h <;> simp only [Prod.mk.injEq] at h ⊢ <;> omega
theorem sh_zero {b : Nat} {p : Nat × Nat} : sh b p ≠ (b, 0) := fun h => by
  unfold sh at h
  split at h
  · simp at h
  · rename_i hn
    exact hn (by rw [h])
theorem live_of {F : Fn} {b : Nat} {x : Ins} (h : b < F.blocks.length) {v : Nat} (hx : (usesOf F x).used v = false) {q : Nat × Nat} (hq : Live (insB F b x) v q) : (∀ p, sh b p = q → Live F v p) ∧ (q = (b, 0) → Live F v (b, 0)) := by
  induction hq with
  | @use q hu =>
    refine ⟨fun p hp => ?_, fun e => ?_⟩
    · subst hp
      rw [at_ins F b x h] at hu
      exact .use hu
    · subst e
      rw [at_ins0 F b x h, hx] at hu
      cases hu
  | @pass q r hd hr _ ih =>
    refine ⟨fun p hp => ?_, fun e => ?_⟩
    · subst hp
      rw [at_ins F b x h] at hd
      rw [next_ins F b x h] at hr
      split at hr
      · obtain ⟨s, hs, rfl⟩ := List.mem_map.1 hr
        exact .pass hd hs (ih.1 s rfl)
      · rename_i hc
        refine .pass hd hr ?_
        by_cases e : r.1 = b
        · have h0 : r.2 = 0 := by
            unfold next at hr
            rw [if_neg hc] at hr
            exact tgts_zero hr
          have hrb : r = (b, 0) := Prod.ext e h0
          rw [hrb]
          exact ih.2 hrb
        · exact ih.1 r (by unfold sh; rw [if_neg e])
    · subst e
      rw [next_ins0 F b x h, List.mem_singleton] at hr
      exact ih.1 (b, 0) (by rw [hr]; unfold sh; rw [if_pos rfl])
theorem live_ins {F : Fn} {b : Nat} {x : Ins} (h : b < F.blocks.length) {v : Nat} (hu : (usesOf F x).used v = false) (hd : (usesOf F x).defd v = false) (p : Nat × Nat) : liveB (insB F b x) (sh b p) v = liveB F p v := by
  rw [Bool.eq_iff_iff, liveB_iff, liveB_iff]
  exact ⟨fun hl => (live_of h hu hl).1 p rfl, live_to h hd⟩
/-- A print of a local, and a constant for it. -/
def printI (v : Nat) : Ins := ⟨21, 0, (v : Int), 0, 0, [], []⟩
def constI (v : Nat) : Ins := ⟨1, (v : Int), 0, 0, 0, [], []⟩
theorem print_uses (F : Fn) (v : Nat) : usesOf F (printI v) = ⟨[(v : Int)], [], [], [], []⟩ := by simp [usesOf, printI]
theorem const_uses (F : Fn) (v : Nat) : usesOf F (constI v) = ⟨[], [], [], [], [(v : Int)]⟩ := by simp [usesOf, constI]
theorem print_other {F : Fn} {v w : Nat} (h : w ≠ v) : (usesOf F (printI v)).used w = false ∧ (usesOf F (printI v)).defd w = false := by
  rw [print_uses]
  simp [Us.used, Us.defd]
  omega
theorem const_other {F : Fn} {v w : Nat} (h : w ≠ v) : (usesOf F (constI v)).used w = false ∧ (usesOf F (constI v)).defd w = false := by
  rw [const_uses]
  simp [Us.used, Us.defd]
  omega
theorem print_first {F : Fn} {b v : Nat} (h : b < F.blocks.length) : liveB (insB F b (printI v)) (b, 0) v = true := by
  rw [liveB_iff]
  refine .use ?_
  rw [at_ins0 F b _ h, print_uses]
  simp [Us.used]
theorem const_first {F : Fn} {b v : Nat} (h : b < F.blocks.length) : liveB (insB F b (constI v)) (b, 0) v = false := by
  rw [liveB_eq, at_ins0 F b _ h, const_uses]
  simp [Us.used, Us.defd]
theorem sh_pt {F : Fn} {b : Nat} {x : Ins} (h : b < F.blocks.length) {p : Nat × Nat} (hp : isPt F p) : isPt (insB F b x) (sh b p) := by
  have h1 : p.1 < F.blocks.length := hp.1
  have h2 := hp.2
  unfold sh
  by_cases e : p.1 = b
  · rw [if_pos e]
    refine ⟨?_, ?_⟩
    · show p.1 < (insB F b x).blocks.length
      rw [insB_nb]
      exact h1
    · simp only
      rw [e, insB_same F b x h]
      rw [e] at h2
      simp only [List.length_cons]
      omega
  · rw [if_neg e]
    refine ⟨?_, ?_⟩
    · show p.1 < (insB F b x).blocks.length
      rw [insB_nb]
      exact h1
    · rw [insB_other F b x e]
      exact h2
theorem sh_pt0 {F : Fn} {b : Nat} {x : Ins} (h : b < F.blocks.length) : isPt (insB F b x) (b, 0) := by
  refine ⟨?_, Nat.zero_le _⟩
  show b < (insB F b x).blocks.length
  rw [insB_nb]
  exact h
theorem ins_szd {F : Fn} {b : Nat} {x : Ins} (hF : Tny F) (hx : x.args.length ≤ 20) : Szd (insB F b x) := by
  have hm : ∀ B, B ∈ (insB F b x).blocks → B ∈ F.blocks ∨ B = { (F.blk b) with code := x :: (F.blk b).code } ∧ b < F.blocks.length := fun B hB => by
    by_cases hb : b < F.blocks.length
    · rcases List.mem_or_eq_of_mem_set (show B ∈ F.blocks.set b _ from hB) with h1 | h1
      · exact .inl h1
      · exact .inr ⟨h1, hb⟩
    · have : F.blocks.set b { (F.blk b) with code := x :: (F.blk b).code } = F.blocks := List.set_eq_of_length_le (by omega)
      exact .inl (by rw [← this]; exact hB)
  refine ⟨hF.locals, by rw [insB_nb]; exact hF.blocks, fun B hB => ?_, fun B hB => ?_, fun B hB y hy => ?_⟩
  · rcases hm B hB with h1 | ⟨h1, h2⟩
    · exact Nat.le_succ_of_le (hF.code B h1)
    · rw [h1]
      have := hF.code _ (getD_mem h2)
      unfold Fn.blk
      simp only [List.length_cons]
      omega
  · rcases hm B hB with h1 | ⟨h1, h2⟩
    · exact hF.targets B h1
    · rw [h1]
      exact hF.targets (F.blk b) (getD_mem h2)
  · rcases hm B hB with h1 | ⟨h1, h2⟩
    · exact hF.args B h1 y hy
    · rw [h1] at hy
      rcases List.mem_cons.1 hy with h3 | h3
      · rw [h3]; exact hx
      · exact hF.args _ (getD_mem h2) y h3
end Go.Proofs.YtdkjkgokllmkmaaGreatDoor.Lv
