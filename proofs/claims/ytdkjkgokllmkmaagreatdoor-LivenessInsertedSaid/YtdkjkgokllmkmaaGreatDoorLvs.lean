/- Walks: the sets of package liveness: Clone, join, Equal. -/
import Derived.Test.YtdkjkgokllmkmaaGreatDoorLvr
namespace Go.Proofs.YtdkjkgokllmkmaaGreatDoor.Lv
open Go.RowKit
set_option linter.unusedVariables false
set_option linter.unusedSimpArgs false
theorem RRow.bool_at' {c : Lk} {A : Option Addr} {xs : List Bool} (h : RRow KBool 1 c A xs) (j : Nat) (hj : j < xs.length) : ∃ ad, A = some ad ∧ c (ad.add j) = some (.bool (xs.getD j false)) := by
  obtain ⟨ad, es, h1, _, h3, h4⟩ := h j _ (List.getElem?_eq_getElem hj)
  refine ⟨ad, h1, ?_⟩
  have h3' : es = [.bool xs[j]] := h3
  subst h3'
  have := h4 0 _ rfl
  simpa [List.getD_eq_getElem?_getD, hj] using this
def orK (k : Nat) (xs ys : List Bool) : List Bool := (List.range xs.length).map fun i => if i < k then xs.getD i false || ys.getD i false else xs.getD i false
def orL (xs ys : List Bool) : List Bool := orK xs.length xs ys
theorem orK_len (k : Nat) (xs ys : List Bool) : (orK k xs ys).length = xs.length := by simp [orK]
theorem orK_zero (xs ys : List Bool) : orK 0 xs ys = xs := by
  apply List.ext_getElem?
  intro i
  by_cases h : i < xs.length <;> simp [orK, h, List.getD_eq_getElem?_getD]
theorem orK_get (k : Nat) (xs ys : List Bool) (i : Nat) (h : i < xs.length) : (orK k xs ys).getD i false = if i < k then xs.getD i false || ys.getD i false else xs.getD i false := by
  simp [orK, h, List.getD_eq_getElem?_getD]
theorem orK_succ (k : Nat) (xs ys : List Bool) : orK (k + 1) xs ys = (orK k xs ys).set k (xs.getD k false || ys.getD k false) := by
  apply List.ext_getElem?
  intro i
  by_cases h : i < xs.length
  · by_cases hk : i = k
    · subst hk
      simp [orK, h]
    · rw [List.getElem?_set, if_neg (fun e => hk e.symm)]
      simp only [orK, List.getElem?_map, List.getElem?_range h, Option.map_some]
      by_cases h2 : i < k
      · rw [if_pos h2, if_pos (by omega)]
      · rw [if_neg h2, if_neg (by omega)]
  · rw [List.getElem?_eq_none (by simp [orK]; omega), List.getElem?_eq_none (by simp [orK]; omega)]
theorem OSet.at0 {base : Nat} {w : World} {A : Option Addr} {l cap : Nat} {xs : List Bool} (h : OSet base w (.slice A l cap) xs) (hl : 0 < xs.length) : ∃ g, A = some ⟨g, 0, none⟩ := by
  obtain ⟨g, cap', e⟩ := h.form hl
  simp only [Value.slice.injEq] at e
  exact ⟨g, e.1⟩
theorem OSet.put' {base : Nat} {w : World} {xs : List Bool} {g n cap j : Nat} (h : OSet base w (.slice (some ⟨g, 0, none⟩) n cap) xs) (hn : n = xs.length) (b : Bool) :
    OSet base (w.setCell ⟨g, j, none⟩ (.bool b)) (.slice (some ⟨g, 0, none⟩) n cap) (xs.set j b) ∧ w.grownBy (w.setCell ⟨g, j, none⟩ (.bool b)) (some g) := by
  subst hn
  exact h.put b
set_option maxHeartbeats 2000000 in
set_option maxRecDepth 100000 in
theorem join_any (base : Nat) (v vt : Value) (xs ys : List Bool) (D : List Nat) (w : World) (h : OSet base w v xs) (hl : xs.length ≤ 1000000) (ht : RBools (look D w) vt ys) (hy : ys.length = xs.length) (hD : ∀ k, v.ownBlock = some k → k ∈ D) :
    Calls Tryz.prog 43 #[v, vt] w fun e w' => e = .returned (.tuple #[]) ∧ OSet base w' v (orL xs ys) ∧ w.grownBy w' v.ownBlock := by
  obtain ⟨A, cap, rfl, h1, h2, h3⟩ := ht
  obtain ⟨B, cap', rfl⟩ := h.shape
  have HL := Lib.hid h3
  have HO := Lib.hid h
  have HD := Lib.hid hD
  obtain ⟨n, hn⟩ : ∃ n, n = xs.length := ⟨_, rfl⟩
  rw [hy, ← hn]
  rw [← hn] at HO HD hl
  have HN := Lib.hid hn
  have HY := Lib.hid hy
  clear h3 h hD hy hn h1
  go_enter Tryz.func43, Tryz.ntmps43
  go_wp2_with fail
  go_loopw [8] (fun i wr => ∃ (k : Nat), i = .int .i64 k ∧ k ≤ n ∧ Hid (OSet base wr (.slice B n cap') (orK k xs ys)) ∧ Hid (w.grownBy wr (Value.slice B n cap').ownBlock)) (fun i _ => n - (intOf i).toNat)
  case atStart => exact ⟨0, rfl, Nat.zero_le _, (by rw [orK_zero]; exact HO), grown_refl _ _⟩
  case round =>
    obtain ⟨k, rfl, hk, HOr, HG⟩ := hrel
    by_cases hlt : k < n
    · have hlx : k < xs.length := by rw [← HN.out]; exact hlt
      obtain ⟨ad, rfl, ca⟩ := (HL.out.mono monoBool (Chg.le' (Chg.grown HG.out HD.out))).bool_at' k (by rw [HY.out]; exact hlx)
      have hki : (k : Int) < (n : Int) := by omega
      obtain ⟨g, rfl⟩ := HOr.out.at0 (by rw [orK_len]; omega)
      obtain ⟨zs, hz⟩ : ∃ zs, zs = orK k xs ys := ⟨_, rfl⟩
      have hzl : n = zs.length := by rw [hz, orK_len]; exact HN.out
      have hg0 : zs.getD k false = xs.getD k false := by rw [hz, orK_get _ _ _ _ hlx, if_neg (by omega)]
      have HS : Hid (orK (k + 1) xs ys = zs.set k (xs.getD k false || ys.getD k false)) := by rw [hz]; exact orK_succ _ _ _
      rw [← hz] at HOr
      have HZL := Lib.hid hzl
      clear hz
      have c2 := HOr.out.cell (j := k) hzl (by rw [← hzl]; exact hlt)
      have f2 := HOr.out.frozen hzl k
      rw [hg0] at c2
      obtain ⟨x, hx⟩ : ∃ x, x = xs.getD k false := ⟨_, rfl⟩
      obtain ⟨y, hy⟩ : ∃ y, y = ys.getD k false := ⟨_, rfl⟩
      rw [← hx] at c2 HS
      rw [← hy] at ca HS
      clear hg0 hx hy hzl hlx
      cases x
      all_goals
        go_wp2
        go_roundw
        case rel =>
          refine ⟨k + 1, by go_num, by omega, ?_, ?_⟩
          · rw [HS.out]
            exact (HOr.out.put' HZL.out _).1
          · exact grown_trans HG.out (HOr.out.put' HZL.out _).2
        case measure => simp [intOf]; omega
    · obtain rfl : k = n := by omega
      have ho := HOr.out
      rw [HN.out] at ho
      have HO1 := Lib.hid ho
      clear ho HOr
      go_wp2
      go_end0
      exact ⟨rfl, by rw [HN.out]; exact HO1.out, HG.out⟩
end Go.Proofs.YtdkjkgokllmkmaaGreatDoor.Lv
