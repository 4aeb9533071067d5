/- Walks: solve, a round of its main loop. -/
import Derived.Test.YtdkjkgokllmkmaaGreatDoorLwc
namespace Go.Proofs.YtdkjkgokllmkmaaGreatDoor.Lv
open Go.RowKit
set_option linter.unusedVariables false
set_option linter.unusedSimpArgs false
def findLoops : Code → List Code
  | .loop c => [c]
  | .seq a b => findLoops a ++ findLoops b
  | .block _ c => findLoops c
  | .scope c => findLoops c
  | .cond _ a b => findLoops a ++ findLoops b
  | _ => []
noncomputable def solveBody : Code := ((Tryz.f34.body.map findLoops).getD [])[1]?.getD .skip
theorem least {p : Nat → Prop} : ∀ n, p n → ∃ n, p n ∧ ∀ m, p m → n ≤ m := by
  intro n
  induction n using Nat.strongRecOn with
  | _ n ih =>
    intro h
    by_cases hm : ∃ m, m < n ∧ p m
    · obtain ⟨m, hlt, hp⟩ := hm
      exact ih m hlt hp
    · exact ⟨n, h, fun m hp => Nat.le_of_not_lt fun hlt => hm ⟨m, hlt, hp⟩⟩
open Classical in
noncomputable def leastOf (p : Nat → Prop) : Nat := if h : ∃ n, p n ∧ ∀ m, p m → n ≤ m then Classical.choose h else 0
theorem leastOf_spec {p : Nat → Prop} {n : Nat} (h : p n) : p (leastOf p) ∧ ∀ m, p m → leastOf p ≤ m := by
  have hx := least n h
  unfold leastOf
  rw [dif_pos hx]
  exact Classical.choose_spec hx
theorem wp_loop_n {P : Program} {Q : Exit → Act → World → Prop} {c : Code} (I : Nat → Act → World → Prop) {n : Nat} {a : Act} {w : World} (h0 : I n a w)
    (round : ∀ n a w, I n a w → c.wp P (Exit.then (fun a' w' => ∃ m, m < n ∧ I m a' w') Q) a w) : (Code.loop c).wp P Q a w := by
  refine wp_loop (fun a w => ∃ n, I n a w) (fun a w => leastOf fun n => I n a w) ⟨n, h0⟩ ?_
  rintro a w ⟨n, hn⟩
  refine wp_mono (round _ a w (leastOf_spec (p := fun n => I n a w) hn).1) ?_
  intro e a' w' hq
  cases e with
  | normal =>
    obtain ⟨m, hm, hi⟩ := hq
    exact ⟨⟨m, hi⟩, Nat.lt_of_le_of_lt ((leastOf_spec (p := fun n => I n a' w') hi).2 m hi) hm⟩
  | ret => exact hq
  | exit id => exact hq
  | goto t => exact hq
  | panic ch => exact hq
  | outgrown => exact hq
def mark (D : Nat) : Deferred := { target := .collected D, args := #[] }
/-- The marks that the ranges over functions have left. -/
def Marks (base : Nat) (ds : List Deferred) (w : World) : Prop := ∃ Ds : List Nat, ds = Ds.map mark ∧ Ds.Nodup ∧ ∀ D, D ∈ Ds → base ≤ D ∧ w.heap[D]? = some (.deferred (some []))
theorem Marks.nil (base : Nat) (w : World) : Marks base [] w := ⟨[], rfl, List.nodup_nil, fun D h => by cases h⟩
theorem Marks.keep {base : Nat} {ds : List Deferred} {w w' : World} (h : Marks base ds w) (hk : ∀ (k : Nat) (o : Obj), w.heap[k]? = some o → o.isCells = false → w'.heap[k]? = some o) : Marks base ds w' := by
  obtain ⟨Ds, h1, h2, h3⟩ := h
  exact ⟨Ds, h1, h2, fun D hD => ⟨(h3 D hD).1, hk _ _ (h3 D hD).2 rfl⟩⟩
theorem Marks.more {base : Nat} {ds : List Deferred} {w : World} (h : Marks base ds w) {D N : Nat} (hb : base ≤ D) (hD : w.heap[D]? = some (.deferred (some []))) (hN : N ≤ D) (hlt : ∀ d, d ∈ ds → ∀ k, d = mark k → k < N) : Marks base (mark D :: ds) w := by
  obtain ⟨Ds, rfl, h2, h3⟩ := h
  refine ⟨D :: Ds, rfl, List.nodup_cons.2 ⟨fun hm => ?_, h2⟩, fun k hk => ?_⟩
  · have := hlt (mark D) (List.mem_map.2 ⟨D, hm, rfl⟩) D rfl
    omega
  · rcases List.mem_cons.1 hk with rfl | hk
    · exact ⟨hb, hD⟩
    · exact h3 k hk
theorem Marks.lt {base : Nat} {ds : List Deferred} {w : World} (h : Marks base ds w) : ∀ d, d ∈ ds → ∀ k, d = mark k → k < w.heap.size := by
  obtain ⟨Ds, rfl, h2, h3⟩ := h
  rintro d hd k rfl
  obtain ⟨D, hD, e⟩ := List.mem_map.1 hd
  have e' : D = k := by
    have := congrArg Deferred.target e
    simpa [mark] using this
  subst e'
  exact (Array.getElem?_eq_some_iff.1 (h3 D hD).2).1
theorem lit189 (arr : Array Value) (h : arr.size = 189) : ∃ u : Nat → Value, arr = #[u 0, u 1, u 2, u 3, u 4, u 5, u 6, u 7, u 8, u 9, u 10, u 11, u 12, u 13, u 14, u 15, u 16, u 17, u 18, u 19, u 20, u 21, u 22, u 23, u 24, u 25, u 26, u 27, u 28, u 29, u 30, u 31, u 32, u 33, u 34, u 35, u 36, u 37, u 38, u 39, u 40, u 41, u 42, u 43, u 44, u 45, u 46, u 47, u 48, u 49, u 50, u 51, u 52, u 53, u 54, u 55, u 56, u 57, u 58, u 59, u 60, u 61, u 62, u 63, u 64, u 65, u 66, u 67, u 68, u 69, u 70, u 71, u 72, u 73, u 74, u 75, u 76, u 77, u 78, u 79, u 80, u 81, u 82, u 83, u 84, u 85, u 86, u 87, u 88, u 89, u 90, u 91, u 92, u 93, u 94, u 95, u 96, u 97, u 98, u 99, u 100, u 101, u 102, u 103, u 104, u 105, u 106, u 107, u 108, u 109, u 110, u 111, u 112, u 113, u 114, u 115, u 116, u 117, u 118, u 119, u 120, u 121, u 122, u 123, u 124, u 125, u 126, u 127, u 128, u 129, u 130, u 131, u 132, u 133, u 134, u 135, u 136, u 137, u 138, u 139, u 140, u 141, u 142, u 143, u 144, u 145, u 146, u 147, u 148, u 149, u 150, u 151, u 152, u 153, u 154, u 155, u 156, u 157, u 158, u 159, u 160, u 161, u 162, u 163, u 164, u 165, u 166, u 167, u 168, u 169, u 170, u 171, u 172, u 173, u 174, u 175, u 176, u 177, u 178, u 179, u 180, u 181, u 182, u 183, u 184, u 185, u 186, u 187, u 188] := by
  refine ⟨fun i => arr.getD i undef, ?_⟩
  have e : arr = ((List.range 189).map (fun i => arr.getD i undef)).toArray := by
    apply Array.ext_getElem?
    intro i
    by_cases hi : i < 189
    · simp [hi, h]
    · rw [Array.getElem?_eq_none (by omega), Array.getElem?_eq_none (by simp; omega)]
  exact e
def WIq (F : Fn) (W0 : World) (FC : Array Value) (L : Nat → Nat) (bF bO bR bP : Nat) (rb : Nat → Nat) (E : Nat) (q : List Int) (n : Nat) (a : Act) (w : World) : Prop :=
  ∃ (u : Nat → Value) (ds : List Deferred) (lv : Nat → Value) (sv : Nat → Nat → Value) (tab : Nat → Nat → List Bool), a = Act.mk #[u 0, .pointer (some ⟨bF, 0, none⟩), u 2, .pointer (some ⟨bO, 0, none⟩), .slice (some ⟨bP, 0, none⟩) F.blocks.length F.blocks.length, lv F.blocks.length, u 6, u 7, u 8, u 9, u 10, u 11, u 12, u 13, u 14, u 15, u 16, u 17, u 18, u 19, u 20, u 21, u 22, u 23, u 24, u 25, u 26, u 27, u 28, u 29, u 30, u 31, u 32, u 33, u 34, u 35, u 36, u 37, u 38, u 39, u 40, u 41, u 42, u 43, u 44, u 45, u 46, u 47, u 48, u 49, u 50, u 51, u 52, u 53, u 54, u 55, u 56, u 57, u 58, u 59, u 60, u 61, u 62, u 63, u 64, u 65, u 66, u 67, u 68, u 69, u 70, u 71, u 72, u 73, u 74, u 75, u 76, u 77, u 78, u 79, u 80, u 81, u 82, u 83, u 84, u 85, u 86, u 87, u 88, u 89, u 90, u 91, u 92, u 93, u 94, u 95, u 96, u 97, u 98, u 99, u 100, u 101, u 102, u 103, u 104, u 105, u 106, u 107, u 108, u 109, u 110, u 111, u 112, u 113, u 114, u 115, u 116, u 117, u 118, u 119, u 120, u 121, u 122, u 123, u 124, u 125, u 126, u 127, u 128, u 129, u 130, u 131, u 132, u 133, u 134, u 135, u 136, u 137, u 138, u 139, u 140, u 141, u 142, u 143, u 144, u 145, u 146, u 147, u 148, u 149, u 150, u 151, u 152, u 153, u 154, u 155, u 156, u 157, u 158, u 159, u 160, u 161, u 162, u 163, u 164, u 165, u 166, u 167, u 168, u 169, u 170, u 171, u 172, u 173, u 174, u 175, u 176, u 177, u 178, u 179, u 180, u 181, u 182, u 183, u 184, u 185, u 186, u 187, u 188] ds ∧ Marks W0.heap.size ds w ∧
    SM W0 FC F.locals.length F.blocks.length L bF bO bR bP rb lv (lsG F.blocks.length (predL F F.blocks.length) q) sv tab F.blocks.length L w ∧ PInv F E tab q ∧ n = pmeas F E tab q
def WI (F : Fn) (W0 : World) (FC : Array Value) (L : Nat → Nat) (bF bO bR bP : Nat) (rb : Nat → Nat) (E : Nat) (n : Nat) (a : Act) (w : World) : Prop := ∃ q, WIq F W0 FC L bF bO bR bP rb E q n a w
/-- Where the main loop is left. -/
def RQ (F : Fn) (W0 : World) (FC : Array Value) (L : Nat → Nat) (bF bO bR bP : Nat) (rb : Nat → Nat) (E : Nat) : Exit → Act → World → Prop
  | .exit 6, a, w => ∃ n, WIq F W0 FC L bF bO bR bP rb E [] n a w
  | _, _, _ => False
theorem WIq.intro {F : Fn} {W0 : World} {FC : Array Value} {L : Nat → Nat} {bF bO bR bP : Nat} {rb : Nat → Nat} {E : Nat} {arr : Array Value} {ds : List Deferred} {w : World} (hs : arr.size = 189) (h1 : arr[1]? = some (.pointer (some ⟨bF, 0, none⟩)))
    (h3 : arr[3]? = some (.pointer (some ⟨bO, 0, none⟩))) (h4 : arr[4]? = some (.slice (some ⟨bP, 0, none⟩) F.blocks.length F.blocks.length)) {lv : Nat → Value} (h5 : arr[5]? = some (lv F.blocks.length)) (hm : Marks W0.heap.size ds w)
    {sv : Nat → Nat → Value} {tab : Nat → Nat → List Bool} {q : List Int} (hsm : SM W0 FC F.locals.length F.blocks.length L bF bO bR bP rb lv (lsG F.blocks.length (predL F F.blocks.length) q) sv tab F.blocks.length L w) (hp : PInv F E tab q) :
    WIq F W0 FC L bF bO bR bP rb E q (pmeas F E tab q) (Act.mk arr ds) w := by
  obtain ⟨u, hu⟩ := lit189 arr hs
  dsimp only at hu
  subst hu
  have e1 : u 1 = .pointer (some ⟨bF, 0, none⟩) := Option.some.inj h1
  have e3 : u 3 = .pointer (some ⟨bO, 0, none⟩) := Option.some.inj h3
  have e4 : u 4 = .slice (some ⟨bP, 0, none⟩) F.blocks.length F.blocks.length := Option.some.inj h4
  have e5 : u 5 = lv F.blocks.length := Option.some.inj h5
  refine ⟨u, ds, lv, sv, tab, ?_, hm, hsm, hp, rfl⟩
  dsimp only
  rw [e1, e3, e4, e5]
end Go.Proofs.YtdkjkgokllmkmaaGreatDoor.Lv
