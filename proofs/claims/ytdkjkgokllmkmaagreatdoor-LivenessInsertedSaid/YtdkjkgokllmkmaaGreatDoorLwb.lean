/- What solve keeps in memory. -/
import Derived.Test.YtdkjkgokllmkmaaGreatDoorLwa
namespace Go.Proofs.YtdkjkgokllmkmaaGreatDoor.Lv
open Go.RowKit
set_option linter.unusedVariables false
set_option linter.unusedSimpArgs false
/-- A table of values. -/
def tabA (n : Nat) (f : Nat → Value) : Array Value := ((List.range n).map f).toArray
theorem tabA_size (n : Nat) (f : Nat → Value) : (tabA n f).size = n := by simp [tabA]
theorem tabA_get {n : Nat} {f : Nat → Value} {j : Nat} (h : j < n) : (tabA n f)[j]? = some (f j) := by simp [tabA, h]
theorem tabA_congr {n : Nat} {f g : Nat → Value} (h : ∀ j, j < n → f j = g j) : tabA n f = tabA n g := by
  unfold tabA
  congr 1
  exact List.map_congr_left fun j hj => h j (List.mem_range.1 hj)
theorem tabA_set (n : Nat) (f : Nat → Value) (k : Nat) (v : Value) : (tabA n f).setIfInBounds k v = tabA n fun j => if j = k then v else f j := by
  apply Array.ext_getElem?
  intro j
  by_cases hj : j < n
  · rw [Array.getElem?_setIfInBounds]
    by_cases e : k = j
    · subst e
      rw [if_pos rfl, if_pos (by rw [tabA_size]; exact hj), tabA_get hj, if_pos rfl]
    · rw [if_neg e, tabA_get hj, tabA_get hj, if_neg (fun h => e h.symm)]
  · rw [Array.getElem?_eq_none (by simp [tabA]; omega), Array.getElem?_eq_none (by simp [tabA]; omega)]
theorem map_range_const (z : Value) (n : Nat) : (List.range n).map (fun _ => z) = List.replicate n z := by rw [List.map_const', List.length_range]
theorem made_tab (z : Value) (n : Nat) : madeCells #[z] n = tabA n fun _ => z := by
  apply Array.ext'
  rw [toList_madeCells_one]
  simp [tabA, map_range_const]
def upd {α : Type} (f : Nat → α) (a : Nat) (x : α) : Nat → α := fun b => if b = a then x else f b
theorem upd_same {α : Type} (f : Nat → α) (a : Nat) (x : α) : upd f a x a = x := if_pos rfl
theorem upd_ne {α : Type} (f : Nat → α) {a b : Nat} (x : α) (h : b ≠ a) : upd f a x b = f b := if_neg h
theorem upd_self {α : Type} (f : Nat → α) (a : Nat) : upd f a (f a) = f := by
  funext b
  unfold upd
  split
  · rename_i e; rw [e]
  · rfl
def upd2 {α : Type} (f : Nat → Nat → α) (a k : Nat) (x : α) : Nat → Nat → α := fun b j => if b = a ∧ j = k then x else f b j
def nilS : Value := .slice none 0 0
theorem OSet.ck {base : Nat} {D : List Nat} {w w' : World} {v : Value} {xs : List Bool} (h : OSet base w v xs) (hc : CK D w w') (hd : ∀ g, v.ownBlock = some g → g ∉ D) : OSet base w' v xs := by
  refine ⟨h.1, ?_⟩
  rcases h.2 with h2 | ⟨g, cap, cur, rfl, h1, h2, h3⟩
  · exact .inl h2
  · exact .inr ⟨g, cap, cur, rfl, h1, hc.block g _ (hd g rfl) h2 rfl, h3⟩
theorem OSet.apart {base : Nat} {w : World} {v : Value} {xs : List Bool} (h : OSet base w v xs) {b t : Nat} {cs : Array Value} (hb : Bx w b t cs) (ht : t ≠ 4) : ∀ g, v.ownBlock = some g → g ≠ b := by
  intro g hg e
  subst e
  exact h.tag hb ht hg.symm
theorem OSet.new (W0 : Nat) (w : World) (n : Nat) (h : W0 ≤ w.heap.size) (hn : n ≤ 1000000) : OSet W0 (w.alloc (.cells (tabA n fun _ => .bool false) 4)) (.slice (some ⟨w.heap.size, 0, none⟩) n n) (List.replicate n false) := by
  refine ⟨by simp [bools], .inr ⟨w.heap.size, n, tabA n fun _ => .bool false, ?_, h, heap_alloc_new w _, ?_, ?_, ?_, ?_⟩⟩
  · rw [List.length_replicate]
  · rw [List.length_replicate]; exact Nat.le_refl _
  · simp only [maxLen]; omega
  · rw [tabA_size, Nat.mul_one]
  · rw [List.length_replicate, Nat.mul_one]
    unfold tabA
    simp [bools, List.take_of_length_le, map_range_const]
theorem OSet.bools {base : Nat} {w : World} {v : Value} {xs : List Bool} (h : OSet base w v xs) (D : List Nat) (hd : ∀ g, v.ownBlock = some g → g ∉ D) : RBools (look D w) v xs := RBools.of_own D h hd
/-- The rows of numbers: those of the blocks that lead to one, and, last, the work list. -/
def Fam (base : Nat) (w : World) (n : Nat) (lv : Nat → Value) (ls : Nat → List Int) : Prop :=
  (∀ b, b ≤ n → QRow base w (lv b) (ls b)) ∧ ∀ a b, a ≤ n → b ≤ n → a ≠ b → ∀ g, (lv a).ownBlock = some g → (lv b).ownBlock ≠ some g
theorem Fam.ck {base : Nat} {D : List Nat} {w w' : World} {n : Nat} {lv : Nat → Value} {ls : Nat → List Int} (h : Fam base w n lv ls) (hc : CK D w w') (hd : ∀ b, b ≤ n → ∀ g, (lv b).ownBlock = some g → g ∉ D) : Fam base w' n lv ls :=
  ⟨fun b hb => (h.1 b hb).ck hc (hd b hb), h.2⟩
theorem Fam.app {base : Nat} {w w' : World} {n : Nat} {lv : Nat → Value} {ls : Nat → List Int} (h : Fam base w n lv ls) {a : Nat} (ha : a ≤ n) {v' : Value} {xs : List Int} (hq : QRow base w' v' xs)
    (hg : w.grownBy w' (lv a).ownBlock) (ho : v'.ownBlock = (lv a).ownBlock ∨ ∃ g, v'.ownBlock = some g ∧ w.heap.size ≤ g) : Fam base w' n (upd lv a v') (upd ls a xs) := by
  have hold : ∀ b, b ≤ n → b ≠ a → ∀ g, v'.ownBlock = some g → (lv b).ownBlock ≠ some g := by
    intro b hb hba g hv' e
    rcases ho with ho | ⟨g', hg', hge⟩
    · rw [ho] at hv'
      exact h.2 b a hb ha hba g e hv'
    · rw [hg'] at hv'
      cases hv'
      have := ((h.1 b hb).lt e).2.1
      omega
  refine ⟨fun b hb => ?_, fun b c hb hc hbc g hv => ?_⟩
  · by_cases e : b = a
    · subst e
      rw [upd_same, upd_same]
      exact hq
    · rw [upd_ne _ _ e, upd_ne _ _ e]
      exact (h.1 b hb).grown hg (fun g hg' => fun e' => h.2 b a hb ha e g hg' e')
  · by_cases e : b = a
    · subst e
      rw [upd_same] at hv
      rw [upd_ne _ _ (fun e' => hbc e'.symm)]
      exact hold c hc (fun e' => hbc e'.symm) g hv
    · rw [upd_ne _ _ e] at hv
      by_cases e2 : c = a
      · subst e2
        rw [upd_same]
        exact fun e' => hold b hb e g e' hv
      · rw [upd_ne _ _ e2]
        exact h.2 b c hb hc hbc g hv
/-- solve's memory: the function's box, the box of the result, its rows (m of them laid, c b sets in row b), the rows of numbers. -/
structure SM (W0 : World) (fc : Array Value) (nl nb : Nat) (L : Nat → Nat) (bF bO R P : Nat) (rb : Nat → Nat) (lv : Nat → Value) (ls : Nat → List Int) (sv : Nat → Nat → Value) (tab : Nat → Nat → List Bool) (m : Nat) (c : Nat → Nat) (w : World) : Prop where
  bl : Below W0.heap.size W0 w
  f : Bx w bF 29 fc
  o : Bx w bO 70 #[.slice (some ⟨R, 0, none⟩) nb nb]
  r : Bx w R 82 (tabA nb fun b => if b < m then .slice (some ⟨rb b, 0, none⟩) (L b) (L b) else nilS)
  p : Bx w P 27 (tabA nb lv)
  row : ∀ b, b < m → W0.heap.size ≤ rb b ∧ Bx w (rb b) 83 (tabA (L b) fun k => if k < c b then sv b k else nilS)
  inj : ∀ a b, a < m → b < m → rb a = rb b → a = b
  set : ∀ b, b < m → ∀ k, k < c b → OSet W0.heap.size w (sv b k) (tab b k) ∧ (tab b k).length = nl
  fam : Fam W0.heap.size w nb lv ls
  at_ : W0.heap.size ≤ bF ∧ W0.heap.size ≤ bO ∧ W0.heap.size ≤ R ∧ W0.heap.size ≤ P
section
variable {W0 : World} {fc : Array Value} {nl nb : Nat} {L : Nat → Nat} {bF bO R P : Nat} {rb : Nat → Nat} {lv : Nat → Value} {ls : Nat → List Int} {sv : Nat → Nat → Value} {tab : Nat → Nat → List Bool} {m : Nat} {c : Nat → Nat} {w w' : World}
theorem SM.ck (h : SM W0 fc nl nb L bF bO R P rb lv ls sv tab m c w) (hk : CK [] w w') (hb : Below W0.heap.size W0 w') : SM W0 fc nl nb L bF bO R P rb lv ls sv tab m c w' :=
  ⟨hb, hk.bx h.f (by simp), hk.bx h.o (by simp), hk.bx h.r (by simp), hk.bx h.p (by simp), fun b hbm => ⟨(h.row b hbm).1, hk.bx (h.row b hbm).2 (by simp)⟩, h.inj,
    fun b hbm k hk' => ⟨(h.set b hbm k hk').1.ck hk (fun _ _ => by simp), (h.set b hbm k hk').2⟩, h.fam.ck hk (fun _ _ _ _ => by simp), h.at_⟩
theorem SM.below (h : SM W0 fc nl nb L bF bO R P rb lv ls sv tab m c w) (hb : Below w.heap.size w w') : SM W0 fc nl nb L bF bO R P rb lv ls sv tab m c w' := h.ck (CK.of_below hb) (Bl.call h.bl hb)
theorem SM.alloc (h : SM W0 fc nl nb L bF bO R P rb lv ls sv tab m c w) (o : Obj) : SM W0 fc nl nb L bF bO R P rb lv ls sv tab m c (w.alloc o) := h.below (Bl.alloc (Below.refl _ _) o)
theorem SM.drew (h : SM W0 fc nl nb L bF bO R P rb lv ls sv tab m c w) : SM W0 fc nl nb L bF bO R P rb lv ls sv tab m c w.drew := h.below (Bl.drew (Below.refl _ _))
/-- A new row. -/
theorem SM.newrow (h : SM W0 fc nl nb L bF bO R P rb lv ls sv tab m c w) (hm : m < nb) :
    SM W0 fc nl nb L bF bO R P (upd rb m w.heap.size) lv ls sv tab (m + 1) (upd c m 0) ((w.alloc (.cells (tabA (L m) fun _ => nilS) 83)).setCell ⟨R, m, none⟩ (.slice (some ⟨w.heap.size, 0, none⟩) (L m) (L m))) := by
  have ha := h.alloc (.cells (tabA (L m) fun _ => nilS) 83)
  obtain ⟨w1, hw1⟩ : ∃ w1, w1 = w.alloc (.cells (tabA (L m) fun _ => nilS) 83) := ⟨_, rfl⟩
  have hnew : Bx w1 w.heap.size 83 (tabA (L m) fun _ => nilS) := by rw [hw1]; exact Bx.new _ _ _
  have hlt : ∀ b, b < m → rb b < w.heap.size := fun b hb => (h.row b hb).2.lt
  have hRlt := h.r.lt
  rw [← hw1] at ha ⊢
  have hg := grown_setCell w1 ⟨R, m, none⟩ (.slice (some ⟨w.heap.size, 0, none⟩) (L m) (L m))
  have hR : ∀ {b t cs}, Bx w1 b t cs → t ≠ 82 → b ≠ R := fun hx ht e => by
    subst e
    have := hx.symm.trans ha.r
    simp only [Option.some.injEq, Obj.cells.injEq] at this
    exact ht this.2.1
  have hck : CK [R] w1 (w1.setCell ⟨R, m, none⟩ (.slice (some ⟨w.heap.size, 0, none⟩) (L m) (L m))) := CK.of_chg (Chg.setCell w1 (by simp) _)
  have far : ∀ {b t cs}, Bx w1 b t cs → t ≠ 82 → Bx (w1.setCell ⟨R, m, none⟩ (.slice (some ⟨w.heap.size, 0, none⟩) (L m) (L m))) b t cs := fun hx ht => hck.bx hx (by simpa using hR hx ht)
  refine ⟨ha.bl.setCell h.at_.2.2.1 _, far ha.f (by simp), far ha.o (by simp), ?_, far ha.p (by simp), ?_, ?_, ?_, ?_, h.at_⟩
  · have := ha.r.set m (.slice (some ⟨w.heap.size, 0, none⟩) (L m) (L m))
    rw [tabA_set] at this
    rw [tabA_congr (g := fun j => if j = m then .slice (some ⟨w.heap.size, 0, none⟩) (L m) (L m) else if j < m then .slice (some ⟨rb j, 0, none⟩) (L j) (L j) else nilS)]
    · exact this
    · intro j hj
      by_cases e : j = m
      · subst e
        simp [upd_same]
      · rw [upd_ne _ _ e, if_neg e]
        by_cases h2 : j < m
        · rw [if_pos (by omega), if_pos h2]
        · rw [if_neg (by omega), if_neg h2]
  · intro b hb
    by_cases e : b = m
    · subst e
      rw [upd_same, upd_same]
      refine ⟨h.bl.size, far ?_ (by simp)⟩
      rw [tabA_congr (g := fun _ => nilS) (fun j _ => by simp)]
      exact hnew
    · rw [upd_ne _ _ e, upd_ne _ _ e]
      exact ⟨(ha.row b (by omega)).1, far (ha.row b (by omega)).2 (by simp)⟩
  · intro a b hA hB e
    by_cases ea : a = m
    · by_cases eb : b = m
      · omega
      · subst ea
        rw [upd_same, upd_ne _ _ eb] at e
        have := hlt b (by omega)
        omega
    · by_cases eb : b = m
      · subst eb
        rw [upd_same, upd_ne _ _ ea] at e
        have := hlt a (by omega)
        omega
      · rw [upd_ne _ _ ea, upd_ne _ _ eb] at e
        exact h.inj a b (by omega) (by omega) e
  · intro b hb k hk
    by_cases e : b = m
    · subst e
      rw [upd_same] at hk
      omega
    · rw [upd_ne _ _ e] at hk
      obtain ⟨s1, s2⟩ := ha.set b (by omega) k hk
      exact ⟨s1.ck hck (fun g hg' => by simpa using s1.apart ha.r (by simp) g hg'), s2⟩
  · exact ha.fam.ck hck (fun b hb g hg' => by
      have := (ha.fam.1 b hb).apart ha.r (by simp)
      rw [hg'] at this
      simpa using this)
/-- A set is put into a row's slot: the next free one, or one that holds a set already. -/
theorem SM.put (h : SM W0 fc nl nb L bF bO R P rb lv ls sv tab m c w) {i k : Nat} (hi : i < m) {v : Value} {xs : List Bool} (hv : OSet W0.heap.size w v xs) (hx : xs.length = nl) (hk : k ≤ c i) (hkl : k < L i) :
    SM W0 fc nl nb L bF bO R P rb lv ls (upd2 sv i k v) (upd2 tab i k xs) m (upd c i (max (c i) (k + 1))) (w.setCell ⟨rb i, k, none⟩ v) := by
  have hrow := h.row i hi
  have hck : CK [rb i] w (w.setCell ⟨rb i, k, none⟩ v) := CK.of_chg (Chg.setCell w (by simp) _)
  have hR : ∀ {b t cs}, Bx w b t cs → t ≠ 83 → b ≠ rb i := fun hx ht e => by
    subst e
    have := hx.symm.trans hrow.2
    simp only [Option.some.injEq, Obj.cells.injEq] at this
    exact ht this.2.1
  have far : ∀ {b t cs}, Bx w b t cs → t ≠ 83 → Bx (w.setCell ⟨rb i, k, none⟩ v) b t cs := fun hx ht => hck.bx hx (by simpa using hR hx ht)
  refine ⟨h.bl.setCell hrow.1 _, far h.f (by simp), far h.o (by simp), far h.r (by simp), far h.p (by simp), ?_, h.inj, ?_, ?_, h.at_⟩
  · intro b hb
    by_cases e : b = i
    · subst e
      refine ⟨hrow.1, ?_⟩
      have := hrow.2.set k v
      rw [tabA_set] at this
      rw [tabA_congr (g := fun j => if j = k then v else if j < c b then sv b j else nilS)]
      · exact this
      · intro j hj
        rw [upd_same]
        unfold upd2
        by_cases e2 : j = k
        · subst e2
          rw [if_pos (by omega), if_pos ⟨rfl, rfl⟩, if_pos rfl]
        · by_cases h3 : j < c b
          · have h4 : j < max (c b) (k + 1) := by omega
            simp [e2, h3, h4]
          · have h4 : ¬ j < max (c b) (k + 1) := by omega
            simp [e2, h3, h4]
    · rw [upd_ne _ _ e]
      refine ⟨(h.row b hb).1, ?_⟩
      have hb2 := hck.bx (h.row b hb).2 (by simpa using fun e' => e (h.inj b i hb hi e'))
      rw [tabA_congr (g := fun j => if j < c b then sv b j else nilS)]
      · exact hb2
      · intro j _
        have e3 : upd2 sv i k v b j = sv b j := if_neg (fun h => e h.1)
        rw [e3]
  · intro b hb j hj
    have hs : ∀ {u ys}, OSet W0.heap.size w u ys → OSet W0.heap.size (w.setCell ⟨rb i, k, none⟩ v) u ys := fun hu => hu.ck hck (fun g hg => by simpa using hu.apart hrow.2 (by simp) g hg)
    unfold upd2
    by_cases e : b = i ∧ j = k
    · rw [if_pos e, if_pos e]
      exact ⟨hs hv, hx⟩
    · rw [if_neg e, if_neg e]
      have hjc : j < c b := by
        by_cases e2 : b = i
        · subst e2
          rw [upd_same] at hj
          have : j ≠ k := fun h => e ⟨rfl, h⟩
          omega
        · rwa [upd_ne _ _ e2] at hj
      exact ⟨hs (h.set b hb j hjc).1, (h.set b hb j hjc).2⟩
  · exact h.fam.ck hck (fun b hb g hg' => by
      have := (h.fam.1 b hb).apart hrow.2 (by simp)
      rw [hg'] at this
      simpa using this)
/-- A number more in the row a < nb: the row is stored back. -/
theorem SM.push (h : SM W0 fc nl nb L bF bO R P rb lv ls sv tab m c w) {a : Nat} (ha : a < nb) {v' : Value} {xs : List Int} (hq : QRow W0.heap.size w' v' xs) (hg : w.grownBy w' (lv a).ownBlock)
    (ho : v'.ownBlock = (lv a).ownBlock ∨ ∃ g, v'.ownBlock = some g ∧ w.heap.size ≤ g) :
    SM W0 fc nl nb L bF bO R P rb (upd lv a v') (upd ls a xs) sv tab m c (w'.setCell ⟨P, a, none⟩ v') := by
  obtain ⟨D, hD⟩ : ∃ D : List Nat, D = match (lv a).ownBlock with | some g => [g] | none => [] := ⟨_, rfl⟩
  have hDm : ∀ g, g ∈ D ↔ (lv a).ownBlock = some g := by
    intro g
    rw [hD]
    cases (lv a).ownBlock with
    | none => simp
    | some g' => simp [eq_comm]
  have hc1 : CK D w w' := CK.of_chg (Chg.grown hg (fun k hk => (hDm k).2 hk))
  have hq0 := h.fam.1 a (by omega)
  have no3 : ∀ {b t cs}, Bx w b t cs → t ≠ 3 → b ∉ D := fun hx ht hm => hq0.apart hx ht ((hDm _).1 hm)
  have no4 : ∀ {u ys}, OSet W0.heap.size w u ys → ∀ g, u.ownBlock = some g → g ∉ D := fun hu g hgu hm => by
    obtain ⟨_, _, cs, hbx⟩ := hq0.lt ((hDm g).1 hm)
    exact hu.apart hbx (by simp) g hgu rfl
  have hP' := hc1.bx h.p (no3 h.p (by simp))
  have hfam := h.fam.app (by omega) hq hg ho
  have hbl' : Below W0.heap.size W0 w' := Bl.chg h.bl (Chg.grown hg (fun k hk => (hDm k).2 hk)) (fun g hm => (hq0.lt ((hDm g).1 hm)).1)
  have hck : CK [P] w' (w'.setCell ⟨P, a, none⟩ v') := CK.of_chg (Chg.setCell w' (by simp) _)
  have hR : ∀ {b t cs}, Bx w' b t cs → t ≠ 27 → b ≠ P := fun hx ht e => by
    subst e
    have := hx.symm.trans hP'
    simp only [Option.some.injEq, Obj.cells.injEq] at this
    exact ht this.2.1
  have far : ∀ {b t cs}, Bx w b t cs → t ≠ 3 → t ≠ 27 → Bx (w'.setCell ⟨P, a, none⟩ v') b t cs := fun hx h3 ht => hck.bx (hc1.bx hx (no3 hx h3)) (by simpa using hR (hc1.bx hx (no3 hx h3)) ht)
  refine ⟨hbl'.setCell h.at_.2.2.2 _, far h.f (by simp) (by simp), far h.o (by simp) (by simp), far h.r (by simp) (by simp), ?_, fun b hb => ⟨(h.row b hb).1, far (h.row b hb).2 (by simp) (by simp)⟩, h.inj, ?_, ?_, h.at_⟩
  · have := hP'.set a v'
    rw [tabA_set] at this
    exact this
  · intro b hb k hk
    obtain ⟨s1, s2⟩ := h.set b hb k hk
    have s1' := s1.ck hc1 (no4 s1)
    exact ⟨s1'.ck hck (fun g hg' => by simpa using s1'.apart hP' (by simp) g hg'), s2⟩
  · exact hfam.ck hck (fun b hb g hg' => by
      have := (hfam.1 b hb).apart hP' (by simp)
      rw [hg'] at this
      simpa using this)
/-- Numbers more in the work list. -/
theorem SM.queue (h : SM W0 fc nl nb L bF bO R P rb lv ls sv tab m c w) {v' : Value} {xs : List Int} (hq : QRow W0.heap.size w' v' xs) (hg : w.grownBy w' (lv nb).ownBlock)
    (ho : v'.ownBlock = (lv nb).ownBlock ∨ ∃ g, v'.ownBlock = some g ∧ w.heap.size ≤ g) :
    SM W0 fc nl nb L bF bO R P rb (upd lv nb v') (upd ls nb xs) sv tab m c w' := by
  obtain ⟨D, hD⟩ : ∃ D : List Nat, D = match (lv nb).ownBlock with | some g => [g] | none => [] := ⟨_, rfl⟩
  have hDm : ∀ g, g ∈ D ↔ (lv nb).ownBlock = some g := by
    intro g
    rw [hD]
    cases (lv nb).ownBlock with
    | none => simp
    | some g' => simp [eq_comm]
  have hc1 : CK D w w' := CK.of_chg (Chg.grown hg (fun k hk => (hDm k).2 hk))
  have hq0 := h.fam.1 nb (by omega)
  have no3 : ∀ {b t cs}, Bx w b t cs → t ≠ 3 → b ∉ D := fun hx ht hm => hq0.apart hx ht ((hDm _).1 hm)
  have no4 : ∀ {u ys}, OSet W0.heap.size w u ys → ∀ g, u.ownBlock = some g → g ∉ D := fun hu g hgu hm => by
    obtain ⟨_, _, cs, hbx⟩ := hq0.lt ((hDm g).1 hm)
    exact hu.apart hbx (by simp) g hgu rfl
  have hfam := h.fam.app (by omega) hq hg ho
  have hbl' : Below W0.heap.size W0 w' := Bl.chg h.bl (Chg.grown hg (fun k hk => (hDm k).2 hk)) (fun g hm => (hq0.lt ((hDm g).1 hm)).1)
  have far : ∀ {b t cs}, Bx w b t cs → t ≠ 3 → Bx w' b t cs := fun hx h3 => hc1.bx hx (no3 hx h3)
  refine ⟨hbl', far h.f (by simp), far h.o (by simp), far h.r (by simp), ?_, fun b hb => ⟨(h.row b hb).1, far (h.row b hb).2 (by simp)⟩, h.inj, ?_, hfam, h.at_⟩
  · rw [tabA_congr (g := lv) (fun j hj => upd_ne _ _ (by omega))]
    exact far h.p (by simp)
  · intro b hb k hk
    obtain ⟨s1, s2⟩ := h.set b hb k hk
    exact ⟨s1.ck hc1 (no4 s1), s2⟩
/-- The work list's first number is taken off: the memory stands. -/
theorem SM.cut (h : SM W0 fc nl nb L bF bO R P rb lv ls sv tab m c w) {v' : Value} {xs : List Int} (hq : QRow W0.heap.size w v' xs) (ho : v'.ownBlock = (lv nb).ownBlock) :
    SM W0 fc nl nb L bF bO R P rb (upd lv nb v') (upd ls nb xs) sv tab m c w := h.queue hq (grown_refl _ _) (.inl ho)
end
end Go.Proofs.YtdkjkgokllmkmaaGreatDoor.Lv
