/- Walks: the sets of package liveness. -/
import Derived.Test.YtdkjkgokllmkmaaGreatDoorLvj
namespace Go.Proofs.YtdkjkgokllmkmaaGreatDoor.Lv
open Go.RowKit
set_option linter.unusedVariables false
set_option linter.unusedSimpArgs false
def putL (xs : List Bool) (n : Int) (b : Bool) : List Bool := if 0 ≤ n ∧ n < xs.length then xs.set n.toNat b else xs
def putsL (xs : List Bool) (b : Bool) (l : List Int) : List Bool := l.foldl (fun a n => putL a n b) xs
theorem putL_len (xs : List Bool) (n : Int) (b : Bool) : (putL xs n b).length = xs.length := by unfold putL; split <;> simp
theorem putsL_len (b : Bool) (l : List Int) : ∀ xs, (putsL xs b l).length = xs.length := by
  induction l with
  | nil => intro xs; rfl
  | cons n l ih => intro xs; show (putsL (putL xs n b) b l).length = _; rw [ih, putL_len]
theorem putsL_snoc (xs : List Bool) (b : Bool) (l : List Int) (n : Int) : putsL xs b (l ++ [n]) = putL (putsL xs b l) n b := by simp [putsL, List.foldl_append]
theorem putL_get (xs : List Bool) (n : Int) (b : Bool) (v : Nat) (hv : v < xs.length) : (putL xs n b).getD v false = if n = v then b else xs.getD v false := by
  unfold putL
  by_cases h : 0 ≤ n ∧ n < xs.length
  · rw [if_pos h]
    simp only [List.getD_eq_getElem?_getD, List.getElem?_set]
    by_cases hn : n = v
    · subst hn
      simp [hv]
    · rw [if_neg hn, if_neg (by omega)]
  · rw [if_neg h, if_neg (by omega)]
theorem putsL_get (b : Bool) (l : List Int) : ∀ (xs : List Bool) (v : Nat), v < xs.length → (putsL xs b l).getD v false = if (v : Int) ∈ l then b else xs.getD v false := by
  induction l with
  | nil => intro xs v hv; simp [putsL]
  | cons n l ih =>
    intro xs v hv
    show (putsL (putL xs n b) b l).getD v false = _
    rw [ih _ _ (by rw [putL_len]; exact hv), putL_get _ _ _ _ hv]
    by_cases h1 : (v : Int) ∈ l
    · simp [h1]
    · by_cases h2 : n = (v : Int)
      · simp [h2]
      · have : ¬ (v : Int) = n := fun e => h2 e.symm
        simp [h1, h2, this]
theorem grown_refl (w : World) (r : Option Nat) : w.grownBy w r := ⟨rfl, rfl, rfl, Nat.le_refl _, fun _ _ _ => rfl⟩
theorem grown_trans {w w1 w2 : World} {r : Option Nat} (h : w.grownBy w1 r) (k : w1.grownBy w2 r) : w.grownBy w2 r :=
  ⟨k.os.trans h.os, k.tape.trans h.tape, k.output.trans h.output, Nat.le_trans h.size k.size, fun i hi hr => (k.block i (Nat.lt_of_lt_of_le hi h.size) hr).trans (h.block i hi hr)⟩
/-- A set of the call's own. -/
def OSet (base : Nat) (w : World) (v : Value) (xs : List Bool) : Prop := w.ownsRow base 4 1 v xs.length (bools xs)
theorem bools_set (xs : List Bool) (j : Nat) (b : Bool) : bools (xs.set j b) = (bools xs).set j (.bool b) := by simp [bools, List.map_set]
theorem OSet.put {base : Nat} {w : World} {xs : List Bool} {g cap j : Nat} (h : OSet base w (.slice (some ⟨g, 0, none⟩) xs.length cap) xs) (b : Bool) :
    OSet base (w.setCell ⟨g, j, none⟩ (.bool b)) (.slice (some ⟨g, 0, none⟩) xs.length cap) (xs.set j b) ∧ w.grownBy (w.setCell ⟨g, j, none⟩ (.bool b)) (some g) := by
  have := World.ownsRow.stored h j (.bool b)
  unfold OSet
  rw [bools_set, List.length_set]
  exact this
theorem OSet.form {base : Nat} {w : World} {v : Value} {xs : List Bool} (h : OSet base w v xs) (hl : 0 < xs.length) : ∃ g cap, v = .slice (some ⟨g, 0, none⟩) xs.length cap := by
  rcases h.2 with ⟨_, h0⟩ | ⟨g, cap, cur, rfl, _⟩
  · omega
  · exact ⟨_, _, rfl⟩
theorem OSet.shape {base : Nat} {w : World} {v : Value} {xs : List Bool} (h : OSet base w v xs) : ∃ A cap, v = .slice A xs.length cap := by
  rcases h.2 with ⟨rfl, h0⟩ | ⟨g, cap, cur, rfl, _⟩
  · exact ⟨none, 0, by rw [h0]⟩
  · exact ⟨_, _, rfl⟩
theorem OSet.below {base : Nat} {w w1 : World} {v : Value} {xs : List Bool} (h : OSet base w v xs) (hb : Below w.heap.size w w1) : OSet base w1 v xs := own_below h hb
theorem OSet.cell {base : Nat} {w : World} {g l cap j : Nat} {xs : List Bool} (h : OSet base w (.slice (some ⟨g, 0, none⟩) l cap) xs) (hl : l = xs.length) (hj : j < xs.length) : w.cell? ⟨g, j, none⟩ = some (.bool (xs.getD j false)) := by
  subst hl
  rw [World.ownsRow.cellAt h j (by omega)]
  simp [bools, List.getD_eq_getElem?_getD, hj]
theorem OSet.frozen {base : Nat} {w : World} {g l cap : Nat} {xs : List Bool} (h : OSet base w (.slice (some ⟨g, 0, none⟩) l cap) xs) (hl : l = xs.length) (j : Nat) : w.frozen? ⟨g, j, none⟩ = false := by
  subst hl
  exact World.ownsRow.frozenAt h j
set_option maxHeartbeats 1000000 in
set_option maxRecDepth 100000 in
theorem put_any (base : Nat) (v : Value) (xs : List Bool) (n : Int) (b : Bool) (w : World) (h : OSet base w v xs) (hl : xs.length ≤ 1000000) :
    Calls Tryz.prog 64 #[v, .int .i64 n, .bool b] w fun e w' => e = .returned (.tuple #[]) ∧ OSet base w' v (putL xs n b) ∧ w.grownBy w' v.ownBlock := by
  obtain ⟨A, cap, rfl⟩ := h.shape
  have HO := Lib.hid h
  clear h
  by_cases hin : 0 ≤ n ∧ n < xs.length
  · obtain ⟨j, rfl⟩ := Int.eq_ofNat_of_zero_le hin.1
    have hj : j < xs.length := by omega
    have hj2 : (j : Int) < (xs.length : Int) := by omega
    obtain ⟨g, cap', e⟩ := HO.out.form (by omega)
    obtain ⟨rfl, rfl⟩ : A = some ⟨g, 0, none⟩ ∧ cap = cap' := by
      simp only [Value.slice.injEq] at e
      exact ⟨e.1, e.2.2⟩
    have HP : Hid (putL xs (j : Int) b = xs.set j b) := by
      show putL xs (j : Int) b = _
      unfold putL
      rw [if_pos hin]
      rfl
    have c := HO.out.cell (j := j) rfl hj
    have f := HO.out.frozen rfl j
    clear hin e
    go_enter Tryz.func64, Tryz.ntmps64
    go_wp2
    go_end0
    rw [HP.out]
    exact ⟨rfl, HO.out.put b⟩
  · have HP : Hid (putL xs n b = xs) := by
      show putL xs n b = xs
      unfold putL
      rw [if_neg hin]
    by_cases h0 : 0 ≤ n
    · have h1 : (xs.length : Int) ≤ n := by omega
      clear hin
      go_enter Tryz.func64, Tryz.ntmps64
      go_wp2
      go_end0
      rw [HP.out]
      exact ⟨rfl, HO.out, grown_refl _ _⟩
    · have h1 : n < 0 := by omega
      clear hin h0
      go_enter Tryz.func64, Tryz.ntmps64
      go_wp2
      go_end0
      rw [HP.out]
      exact ⟨rfl, HO.out, grown_refl _ _⟩
theorem add_any (base : Nat) (v : Value) (xs : List Bool) (n : Int) (w : World) (h : OSet base w v xs) (hl : xs.length ≤ 1000000) :
    Calls Tryz.prog 58 #[v, .int .i64 n] w fun e w' => e = .returned (.tuple #[]) ∧ OSet base w' v (putL xs n true) ∧ w.grownBy w' v.ownBlock := by
  have HO := Lib.hid h
  clear h
  go_enter Tryz.func58, Tryz.ntmps58
  go_wp2_with fail
  refine (put_any base v xs n true _ HO.out hl).mono ?_
  rintro e w1 ⟨rfl, ho, hg⟩
  have HO1 := Lib.hid ho
  have HG := Lib.hid hg
  clear ho hg
  go_wp2_with fail
  go_end0
  exact ⟨rfl, HO1.out, HG.out⟩
theorem remove_any (base : Nat) (v : Value) (xs : List Bool) (n : Int) (w : World) (h : OSet base w v xs) (hl : xs.length ≤ 1000000) :
    Calls Tryz.prog 57 #[v, .int .i64 n] w fun e w' => e = .returned (.tuple #[]) ∧ OSet base w' v (putL xs n false) ∧ w.grownBy w' v.ownBlock := by
  have HO := Lib.hid h
  clear h
  go_enter Tryz.func57, Tryz.ntmps57
  go_wp2_with fail
  refine (put_any base v xs n false _ HO.out hl).mono ?_
  rintro e w1 ⟨rfl, ho, hg⟩
  have HO1 := Lib.hid ho
  have HG := Lib.hid hg
  clear ho hg
  go_wp2_with fail
  go_end0
  exact ⟨rfl, HO1.out, HG.out⟩
/-- The lists of a list of lists, one behind the other. -/
def cats (ls : List (List Int)) : List Int := ls.flatMap id
theorem cats_snoc (ls : List (List Int)) (l : List Int) : cats (ls ++ [l]) = cats ls ++ l := by simp [cats]
theorem putsL_app (xs : List Bool) (b : Bool) (l m : List Int) : putsL xs b (l ++ m) = putsL (putsL xs b l) b m := by simp [putsL, List.foldl_append]
set_option maxHeartbeats 2000000 in
set_option maxRecDepth 100000 in
theorem each_gen (N : FuncId) (b : Bool) (base : Nat) (v vl : Value) (xs : List Bool) (ls : List (List Int)) (D : List Nat) (w : World) (hen : ∀ args w, (callFunc N args).run Tryz.prog w = .ok (.enter N args) w)
    (hc : ∀ v xs n w, OSet base w v xs → xs.length ≤ 1000000 → Calls Tryz.prog N #[v, .int .i64 n] w fun e w' => e = .returned (.tuple #[]) ∧ OSet base w' v (putL xs n b) ∧ w.grownBy w' v.ownBlock)
    (h : OSet base w v xs) (hl : xs.length ≤ 1000000) (hL : RSl (KSl KInt 1) 1 (look D w) vl ls) (hD : ∀ k, v.ownBlock = some k → k ∈ D) :
    Calls Tryz.prog 56 #[.func (.func N) #[v] #[], vl] w fun e w' => e = .returned (.tuple #[]) ∧ OSet base w' v (putsL xs b (cats ls)) ∧ w.grownBy w' v.ownBlock := by
  obtain ⟨A, cap, rfl, h1, h2, h3⟩ := hL
  have HL := Lib.hid h3
  have HO := Lib.hid h
  have HC := Lib.hid hc
  have HD := Lib.hid hD
  have hll : (ls.length : Int) ≤ 9223372036854775807 := by unfold maxLen at h2; omega
  clear h3 h hc hD
  go_enter Tryz.func56, Tryz.ntmps56
  go_wp2_with fail
  go_loopw [10] (fun i wr => ∃ (k : Nat), i = .int .i64 k ∧ k ≤ ls.length ∧ Hid (OSet base wr v (putsL xs b (cats (ls.take k)))) ∧ Hid (w.grownBy wr v.ownBlock)) (fun i _ => ls.length - (intOf i).toNat)
  case atStart => exact ⟨0, rfl, Nat.zero_le _, HO, grown_refl _ _⟩
  case round =>
    obtain ⟨k, rfl, hk, HOr, HG⟩ := hrel
    by_cases hlt : k < ls.length
    · obtain ⟨ad, vk, rfl, ca, ⟨Ak, ck, rfl, hk1, hk2, hk3⟩⟩ := (HL.out.mono (monoSl monoInt) (Chg.le' (Chg.grown HG.out HD.out))).sl_at k hlt
      have hk3' := (HL.out.sl_at k hlt)
      have hki : (k : Int) < (ls.length : Int) := by omega
      clear hk3 hk3'
      have HLK : Hid (RRow KInt 1 (look D w) Ak (ls.getD k [])) := by
        obtain ⟨ad', vk', e1, c1, ⟨A1, k1, rfl, _, _, r1⟩⟩ := HL.out.sl_at k hlt
        have c2 := Chg.le' (Chg.grown HG.out HD.out) _ _ c1
        simp only [Option.some.injEq] at e1
        subst e1
        rw [ca] at c2
        simp only [Option.some.injEq, Value.slice.injEq] at c2
        rw [c2.1]
        exact r1
      obtain ⟨lk, hlk⟩ : ∃ lk, lk = ls.getD k [] := ⟨_, rfl⟩
      rw [← hlk] at ca hk1 HLK
      have hkl : (lk.length : Int) ≤ 9223372036854775807 := by unfold maxLen at hk2; omega
      have HK := Lib.hid hlk
      clear hlk
      obtain ⟨ys, hys⟩ : ∃ ys, ys = putsL xs b (cats (ls.take k)) := ⟨_, rfl⟩
      rw [← hys] at HOr
      have hyl : ys.length ≤ 1000000 := by rw [hys, putsL_len]; exact hl
      have HY := Lib.hid hys
      clear hys
      go_wp2_with fail
      go_loopw [16] (fun i wi => ∃ (j : Nat), i = .int .i64 j ∧ j ≤ lk.length ∧ Hid (OSet base wi v (putsL ys b (lk.take j))) ∧ Hid (w.grownBy wi v.ownBlock)) (fun i _ => lk.length - (intOf i).toNat)
      case atStart => exact ⟨0, rfl, Nat.zero_le _, HOr, HG⟩
      case round =>
        clear HOr HG ca
        obtain ⟨j, rfl, hj, HOi, HG⟩ := hrel
        by_cases hlt2 : j < lk.length
        · obtain ⟨al, rfl, c⟩ := (HLK.out.mono monoInt (Chg.le' (Chg.grown HG.out HD.out))).int_at j hlt2
          obtain ⟨x, hx⟩ : ∃ x, x = lk.getD j 0 := ⟨_, rfl⟩
          rw [← hx] at c
          have HX := Lib.hid hx
          have hji : (j : Int) < (lk.length : Int) := by omega
          clear hx
          go_wp2_with fail
          refine (HC.out _ _ _ _ HOi.out (by rw [putsL_len]; exact hyl)).mono ?_
          rintro e w1 ⟨rfl, ho, hg⟩
          rw [HX.out, ← putsL_snoc, ← take_snoc lk j 0 hlt2] at ho
          have HO1 := Lib.hid ho
          have HG1 := Lib.hid (grown_trans HG.out hg)
          clear ho hg HOi HG c
          go_wp2_with fail
          go_roundw
          case rel => exact ⟨j + 1, by go_num, by omega, HO1, HG1⟩
          case measure => simp [intOf]; omega
        · obtain rfl : j = lk.length := by omega
          have ho := HOi.out
          rw [List.take_length, HY.out, HK.out, ← putsL_app, ← cats_snoc, ← take_snoc ls k [] hlt] at ho
          have HO1 := Lib.hid ho
          clear ho HOi
          go_wp2
          go_roundw
          case rel => exact ⟨k + 1, by go_num, by omega, HO1, HG⟩
          case measure => simp [intOf]; omega
    · obtain rfl : k = ls.length := by omega
      have ho := HOr.out
      rw [List.take_length] at ho
      have HO1 := Lib.hid ho
      clear ho HOr
      go_wp2
      go_end0
      exact ⟨rfl, HO1.out, HG.out⟩
end Go.Proofs.YtdkjkgokllmkmaaGreatDoor.Lv
