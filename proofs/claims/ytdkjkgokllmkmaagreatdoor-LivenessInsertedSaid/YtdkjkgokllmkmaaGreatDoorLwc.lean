/- Walks: solve. -/
import Derived.Test.YtdkjkgokllmkmaaGreatDoorLwb
import Derived.Test.YtdkjkgokllmkmaaGreatDoorLvx
namespace Go.Proofs.YtdkjkgokllmkmaaGreatDoor.Lv
open Go.RowKit
set_option linter.unusedVariables false
set_option linter.unusedSimpArgs false
theorem upd2_const {α : Type} (a k : Nat) (x : α) : upd2 (fun _ _ => x) a k x = fun _ _ => x := by
  funext b j
  unfold upd2
  split <;> rfl
theorem Bx.ne {w : World} {b b' t t' : Nat} {cs cs' : Array Value} (h : Bx w b t cs) (h' : Bx w b' t' cs') (ht : t ≠ t') : b ≠ b' := fun e => by
  subst e
  have := h.symm.trans h'
  simp only [Option.some.injEq, Obj.cells.injEq] at this
  exact ht this.2.1
section
variable {W0 : World} {fc : Array Value} {nl nb : Nat} {L : Nat → Nat} {bF bO R P : Nat} {rb : Nat → Nat} {lv : Nat → Value} {ls : Nat → List Int} {sv : Nat → Nat → Value} {tab : Nat → Nat → List Bool} {m : Nat} {c : Nat → Nat} {w w' : World}
theorem SM.cO (h : SM W0 fc nl nb L bF bO R P rb lv ls sv tab m c w) : w.cell? ⟨bO, 0, none⟩ = some (.slice (some ⟨R, 0, none⟩) nb nb) := h.o.cell 0
theorem SM.cR (h : SM W0 fc nl nb L bF bO R P rb lv ls sv tab m c w) {b : Nat} (hb : b < m) (hn : b < nb) : w.cell? ⟨R, b, none⟩ = some (.slice (some ⟨rb b, 0, none⟩) (L b) (L b)) := by
  rw [h.r.cell, tabA_get hn, if_pos hb]
theorem SM.cRow (h : SM W0 fc nl nb L bF bO R P rb lv ls sv tab m c w) {b k : Nat} (hb : b < m) (hk : k < L b) : w.cell? ⟨rb b, k, none⟩ = some (if k < c b then sv b k else nilS) := by
  rw [(h.row b hb).2.cell, tabA_get hk]
theorem SM.pushP (h : SM W0 fc nl nb L bF bO R P rb lv ls sv tab m c w) {a : Nat} (ha : a < nb) (hg : w.grownBy w' (lv a).ownBlock) : w'.cell? ⟨P, a, none⟩ = some (lv a) ∧ w'.frozen? ⟨P, a, none⟩ = false := by
  have hb := h.p.grown hg (fun e => (h.fam.1 a (by omega)).apart h.p (by simp) e.symm)
  exact ⟨by rw [hb.cell, tabA_get ha], hb.frozen a⟩
theorem SM.cP (h : SM W0 fc nl nb L bF bO R P rb lv ls sv tab m c w) {a : Nat} (ha : a < nb) : w.cell? ⟨P, a, none⟩ = some (lv a) := by
  rw [h.p.cell, tabA_get ha]
end
theorem Tryz.info82 : (Tryz.prog.info? 82).map (fun i => (i.zero, i.size, i.bytes)) = some (some (.slice none 0 0), 1, 24) := by kernel_rfl
theorem Tryz.info83 : (Tryz.prog.info? 83).map (fun i => (i.zero, i.size, i.bytes)) = some (some (.slice none 0 0), 1, 24) := by kernel_rfl
theorem Tryz.info27 : (Tryz.prog.info? 27).map (fun i => (i.zero, i.size, i.bytes)) = some (some (.slice none 0 0), 1, 24) := by kernel_rfl
theorem mk70 (n : Nat) (hn : n ≤ 1000000) (w : World) : (Instr.makeSlice 70 (.int .i64 (n : Int)) (.int .i64 (n : Int))).run Tryz.prog w = .ok (.slice (some ⟨w.heap.size, 0, none⟩) n n) (w.alloc (.cells (tabA n fun _ => nilS) 82)) := by
  obtain ⟨i0, hi0, hz0, hz1, hz2⟩ := info_parts Tryz.info82
  have := run_make (P := Tryz.prog) w 70 82 i0 _ Tryz.underlying70 hi0 hz0 .i64 .i64 n n (by omega) (by omega) (by rw [hz2]; omega) (by omega)
  rw [hz1] at this
  simpa [made_tab, Value.cells, nilS] using this
theorem mk82 (n : Nat) (hn : n ≤ 1000000) (w : World) : (Instr.makeSlice 82 (.int .i64 (n : Int)) (.int .i64 (n : Int))).run Tryz.prog w = .ok (.slice (some ⟨w.heap.size, 0, none⟩) n n) (w.alloc (.cells (tabA n fun _ => nilS) 83)) := by
  obtain ⟨i0, hi0, hz0, hz1, hz2⟩ := info_parts Tryz.info83
  have := run_make (P := Tryz.prog) w 82 83 i0 _ Tryz.underlying82 hi0 hz0 .i64 .i64 n n (by omega) (by omega) (by rw [hz2]; omega) (by omega)
  rw [hz1] at this
  simpa [made_tab, Value.cells, nilS] using this
theorem mk84 (n : Nat) (hn : n ≤ 1000000) (w : World) : (Instr.makeSlice 84 (.int .i64 (n : Int)) (.int .i64 (n : Int))).run Tryz.prog w = .ok (.slice (some ⟨w.heap.size, 0, none⟩) n n) (w.alloc (.cells (tabA n fun _ => nilS) 27)) := by
  obtain ⟨i0, hi0, hz0, hz1, hz2⟩ := info_parts Tryz.info27
  have := run_make (P := Tryz.prog) w 84 27 i0 _ Tryz.underlying84 hi0 hz0 .i64 .i64 n n (by omega) (by omega) (by rw [hz2]; omega) (by omega)
  rw [hz1] at this
  simpa [made_tab, Value.cells, nilS] using this
theorem mk83 (n : Nat) (hn : n ≤ 1000000) (w : World) : (Instr.makeSlice 83 (.int .i64 (n : Int)) (.int .i64 (n : Int))).run Tryz.prog w = .ok (.slice (some ⟨w.heap.size, 0, none⟩) n n) (w.alloc (.cells (tabA n fun _ => .bool false) 4)) := by
  obtain ⟨i0, hi0, hz0, hz1, hz2⟩ := info_parts Tryz.info4
  have := run_make (P := Tryz.prog) w 83 4 i0 _ Tryz.underlying83 hi0 hz0 .i64 .i64 n n (by omega) (by omega) (by rw [hz2]; omega) (by omega)
  rw [hz1] at this
  simpa [made_tab, Value.cells] using this
def queueL (nb k : Nat) : List Int := (List.range k).map fun (i : Nat) => (nb : Int) - 1 - (i : Int)
def lsG (nb : Nat) (p : Nat → List Int) (q : List Int) : Nat → List Int := fun b => if b < nb then p b else if b = nb then q else []
def lsAt (F : Fn) (k : Nat) : Nat → List Int := lsG F.blocks.length (predL F k) (queueL F.blocks.length k)
theorem lsAt_nil (F : Fn) : lsAt F 0 = fun _ => [] := by
  funext b
  unfold lsAt lsG
  split
  · simp [predL]
  · split <;> simp [queueL]
theorem lsG_lt {nb : Nat} {p : Nat → List Int} {q : List Int} {a : Nat} (h : a < nb) : lsG nb p q a = p a := if_pos h
theorem lsG_at (nb : Nat) (p : Nat → List Int) (q : List Int) : lsG nb p q nb = q := by
  unfold lsG
  rw [if_neg (Nat.lt_irrefl _), if_pos rfl]
theorem lsG_congr {nb : Nat} {p p' : Nat → List Int} (q : List Int) (h : ∀ b, b < nb → p b = p' b) : lsG nb p q = lsG nb p' q := by
  funext b
  unfold lsG
  split
  · exact h b (by assumption)
  · rfl
theorem lsG_upd {nb a : Nat} {p : Nat → List Int} {q x : List Int} (h : a < nb) : upd (lsG nb p q) a x = lsG nb (upd p a x) q := by
  funext b
  by_cases e : b = a
  · subst e
    rw [upd_same, lsG_lt h, upd_same]
  · rw [upd_ne _ _ e]
    unfold lsG
    rw [upd_ne _ _ e]
theorem lsG_updQ {nb : Nat} {p : Nat → List Int} {q x : List Int} : upd (lsG nb p q) nb x = lsG nb p x := by
  funext b
  unfold upd lsG
  by_cases e : b = nb
  · subst e
    rw [if_pos rfl, if_neg (Nat.lt_irrefl _), if_pos rfl]
  · rw [if_neg e, if_neg e, if_neg e]
theorem lsAt_zero {W0 : World} {fc : Array Value} {F : Fn} {nl nb : Nat} {L : Nat → Nat} {bF bO R P : Nat} {rb : Nat → Nat} {lv : Nat → Value} {sv : Nat → Nat → Value} {tab : Nat → Nat → List Bool} {c : Nat → Nat} {w : World}
    (h : SM W0 fc nl nb L bF bO R P rb lv (fun _ => []) sv tab 0 c w) {tab' : Nat → Nat → List Bool} : Hid (SM W0 fc nl nb L bF bO R P rb lv (lsAt F 0) sv tab' 0 c w) := by
  rw [lsAt_nil]
  exact ⟨h.bl, h.f, h.o, h.r, h.p, h.row, h.inj, fun b hb => by omega, h.fam, h.at_⟩
/-- The end of a function that neither panics nor leaves otherwise. -/
def endQ (Q : Exit → Act → World → Prop) : Exit → Act → World → Prop
  | .normal, a, w => Q .normal a w
  | .ret, a, w => Q .ret a w
  | _, _, _ => False
theorem endQ_mono {Q : Exit → Act → World → Prop} (e : Exit) (a : Act) (w : World) (h : endQ Q e a w) : Q e a w := by
  cases e <;> first | exact h | exact h.elim
def predT (F : Fn) (B : Blk) (k j : Nat) : Nat → List Int := fun b => predL F k b ++ ((B.fin.targets.take j).filter fun t => t == (b : Int)).map fun _ => (k : Int)
def lsT (F : Fn) (B : Blk) (k j : Nat) : Nat → List Int := lsG F.blocks.length (predT F B k j) (queueL F.blocks.length k)
theorem lsT_zero {W0 : World} {fc : Array Value} {F : Fn} {B : Blk} {nl nb : Nat} {L : Nat → Nat} {bF bO R P : Nat} {rb : Nat → Nat} {lv : Nat → Value} {sv : Nat → Nat → Value} {tab : Nat → Nat → List Bool} {c : Nat → Nat} {w : World} {k m : Nat}
    (h : SM W0 fc nl nb L bF bO R P rb lv (lsAt F k) sv tab m c w) : SM W0 fc nl nb L bF bO R P rb lv (lsT F B k 0) sv tab m c w := by
  have e : lsT F B k 0 = lsAt F k := lsG_congr _ (fun b _ => by simp [predT])
  rw [e]
  exact h
theorem Fn.targets_le {F : Fn} (hs : Szd F) (a : Nat) : (F.blk a).fin.targets.length ≤ 20 := by
  by_cases h : a < F.blocks.length
  · exact hs.targets _ (getD_mem h)
  · have e : F.blk a = default := by
      show F.blocks.getD a default = default
      rw [List.getD_eq_getElem?_getD, List.getElem?_eq_none (by omega)]
      rfl
    rw [e]
    exact Nat.zero_le _
theorem lsT_len (F : Fn) (B : Blk) (k j a T : Nat) (hT : ∀ a, (F.blk a).fin.targets.length ≤ T) (ha : a < F.blocks.length) : (lsT F B k j a).length ≤ k * T + j := by
  unfold lsT
  rw [lsG_lt ha]
  unfold predT
  rw [List.length_append, List.length_map]
  have h1 := predL_len F a T hT k
  have h2 : ((B.fin.targets.take j).filter fun t => t == (a : Int)).length ≤ (B.fin.targets.take j).length := List.length_filter_le _ _
  have h3 : (B.fin.targets.take j).length ≤ j := by rw [List.length_take]; exact Nat.min_le_left _ _
  omega
theorem lsT_in (F : Fn) (B : Blk) (k j a : Nat) (hj : j < B.fin.targets.length) (ht : B.fin.targets.getD j 0 = (a : Int)) (ha : a < F.blocks.length) :
    upd (lsT F B k j) a (lsT F B k j a ++ [(k : Int)]) = lsT F B k (j + 1) := by
  unfold lsT
  rw [lsG_upd ha, lsG_lt ha]
  refine lsG_congr _ (fun b _ => ?_)
  by_cases e : b = a
  · subst e
    rw [upd_same]
    unfold predT
    rw [take_snoc _ _ 0 hj, ht]
    simp
  · rw [upd_ne _ _ e]
    unfold predT
    rw [take_snoc _ _ 0 hj, ht]
    have : ((a : Int) == (b : Int)) = false := by simp; omega
    simp [this]
theorem lsT_out (F : Fn) (B : Blk) (k j : Nat) (hj : j < B.fin.targets.length) (ht : ¬ (0 ≤ B.fin.targets.getD j 0 ∧ B.fin.targets.getD j 0 < F.blocks.length)) : lsT F B k (j + 1) = lsT F B k j := by
  refine lsG_congr _ (fun b hb => ?_)
  unfold predT
  rw [take_snoc _ _ 0 hj]
  have : (B.fin.targets.getD j 0 == (b : Int)) = false := by
    simp only [beq_eq_false_iff_ne, ne_eq]
    omega
  simp only [List.filter_append, List.filter_cons, this, List.filter_nil, List.map_append, List.map_nil, List.append_nil, Bool.false_eq_true, if_false]
def lsT2 (F : Fn) (k : Nat) : Nat → List Int := lsG F.blocks.length (predL F (k + 1)) (queueL F.blocks.length k)
theorem lsT_all (F : Fn) (k : Nat) (B : Blk) (hB : B = F.blk k) : Hid (lsT F B k B.fin.targets.length = lsT2 F k) := by
  show lsT F B k B.fin.targets.length = lsT2 F k
  refine lsG_congr _ (fun b _ => ?_)
  unfold predT
  rw [hB, List.take_length, predL_succ]
theorem lsT2_next (F : Fn) (k : Nat) : upd (lsT2 F k) F.blocks.length (lsT2 F k F.blocks.length ++ [(F.blocks.length : Int) - 1 - k]) = lsAt F (k + 1) := by
  unfold lsT2 lsAt
  rw [lsG_updQ, lsG_at]
  simp [queueL, List.range_succ]
theorem lsAt_full {W0 : World} {fc : Array Value} {F : Fn} {nl nb : Nat} {L : Nat → Nat} {bF bO R P : Nat} {rb : Nat → Nat} {lv : Nat → Value} {sv : Nat → Nat → Value} {tab : Nat → Nat → List Bool} {c : Nat → Nat} {w : World} {m : Nat}
    (h : Hid (SM W0 fc nl nb L bF bO R P rb lv (lsAt F F.blocks.length) sv tab m c w)) : Hid (SM W0 fc nl nb L bF bO R P rb lv (lsG F.blocks.length (predL F F.blocks.length) (queueL F.blocks.length F.blocks.length)) sv tab m c w) := h
theorem region_anyS {S : World → Prop} {id : Nat} {ops : Array Oper} {Q : Exit → Act → World → Prop} {a : Act} {w : World} (h : AnyS Fence.wide 100 Tryz.prog .any ops Q S ops.size (Array.replicate ops.size false) a w.drew) :
    (Code.region id ops true).wp Tryz.prog Q a w := wpIn_wide.1 (wpIn_region_any (by kernel_rfl) (AnyS.any _ _ _ _ h))
end Go.Proofs.YtdkjkgokllmkmaaGreatDoor.Lv
