/- Appending a list that lies elsewhere to a full slice of the call's own: elements of any size. -/
import Derived.Test.YtdkjkgokllmkmaaGreatDoorLxa
namespace Go.Proofs.YtdkjkgokllmkmaaGreatDoor.Lv
open Go.RowKit
set_option linter.unusedVariables false
set_option linter.unusedSimpArgs false
theorem flat_len {sz : Nat} : ∀ (L : List (List Value)), (∀ es, es ∈ L → es.length = sz) → L.flatten.length = L.length * sz
  | [], _ => by simp
  | es :: L, h => by
    have h1 := flat_len L (fun e he => h e (List.mem_cons_of_mem _ he))
    have h2 := h es (by simp)
    rw [List.flatten_cons, List.length_append, h1, h2, List.length_cons, Nat.succ_mul]
    omega
theorem flat_get {sz : Nat} : ∀ (L : List (List Value)), (∀ es, es ∈ L → es.length = sz) → ∀ (j i : Nat) (es : List Value), L[j]? = some es → i < sz → L.flatten[j * sz + i]? = es[i]?
  | [], _, j, i, es, h, _ => by simp at h
  | e :: L, hl, 0, i, es, h, hi => by
    obtain rfl : e = es := by simpa using h
    have h2 := hl e (by simp)
    rw [List.flatten_cons, Nat.zero_mul, Nat.zero_add, List.getElem?_append_left (by omega)]
  | e :: L, hl, j + 1, i, es, h, hi => by
    have h2 := hl e (by simp)
    have h1 := flat_get L (fun e he => hl e (List.mem_cons_of_mem _ he)) j i es (by simpa using h) hi
    rw [List.flatten_cons, Nat.succ_mul, List.getElem?_append_right (by omega), h2]
    rw [show j * sz + sz + i - sz = j * sz + i by omega]
    exact h1
theorem flat_of {sz : Nat} (hs : 0 < sz) {L : List (List Value)} (hl : ∀ es, es ∈ L → es.length = sz) {k : Nat} {u : Value} (h : L.flatten[k]? = some u) : ∃ j i es, k = j * sz + i ∧ i < sz ∧ L[j]? = some es ∧ es[i]? = some u := by
  have hk := (List.getElem?_eq_some_iff.1 h).1
  rw [flat_len L hl] at hk
  have hj : k / sz < L.length := (Nat.div_lt_iff_lt_mul hs).2 hk
  have hi : k % sz < sz := Nat.mod_lt _ hs
  have e : k = k / sz * sz + k % sz := by rw [Nat.mul_comm]; exact (Nat.div_add_mod k sz).symm
  refine ⟨k / sz, k % sz, L[k / sz], e, hi, List.getElem?_eq_getElem hj, ?_⟩
  rw [← flat_get L hl _ _ _ (List.getElem?_eq_getElem hj) hi, ← e]
  exact h
/-- The cells of a row, an element each. -/
theorem rsl_list {α : Type} {K : Lk → α → List Value → Prop} {sz : Nat} {c : Lk} {v : Value} {xs : List α} (h : RSl K sz c v xs) :
    ∃ L : List (List Value), L.length = xs.length ∧ (∀ es, es ∈ L → es.length = sz) ∧ (∀ (j : Nat) (x : α) (es : List Value), xs[j]? = some x → L[j]? = some es → K c x es) ∧
      ∀ ad (cap : Nat), v = .slice (some ad) xs.length cap → ∀ (j i : Nat) (es : List Value) u, L[j]? = some es → es[i]? = some u → c (ad.add (j * sz + i)) = some u := by
  obtain ⟨A, cap, rfl, h1, h2, h3⟩ := h
  have hx : ∀ j, ∃ es : List Value, ∀ x, xs[j]? = some x → es.length = sz ∧ K c x es ∧ ∀ ad, A = some ad → ∀ i u, es[i]? = some u → c (ad.add (j * sz + i)) = some u := fun j => by
    cases hj : xs[j]? with
    | none => exact ⟨[], fun x hx => by cases hx⟩
    | some x =>
      obtain ⟨ad, es, e1, e2, e3, e4⟩ := h3 j x hj
      refine ⟨es, fun y hy => ?_⟩
      simp only [Option.some.injEq] at hy
      subst hy
      refine ⟨e2, e3, fun ad' e' => ?_⟩
      rw [e1] at e'
      simp only [Option.some.injEq] at e'
      subst e'
      exact e4
  obtain ⟨E, hE⟩ := Classical.axiomOfChoice hx
  have hget : ∀ j es, ((List.range xs.length).map E)[j]? = some es → ∃ x, xs[j]? = some x ∧ es = E j := fun j es hj => by
    have hjl := (List.getElem?_eq_some_iff.1 hj).1
    rw [List.length_map, List.length_range] at hjl
    rw [List.getElem?_map, List.getElem?_range hjl] at hj
    simp only [Option.map_some, Option.some.injEq] at hj
    exact ⟨xs[j], List.getElem?_eq_getElem hjl, hj.symm⟩
  refine ⟨(List.range xs.length).map E, by simp, fun es he => ?_, fun j x es hj he => ?_, fun ad cap' hv j i es u he hu => ?_⟩
  · obtain ⟨j, hj⟩ := List.getElem?_of_mem he
    obtain ⟨x, hx, rfl⟩ := hget j es hj
    exact (hE j x hx).1
  · obtain ⟨y, hy, rfl⟩ := hget j es he
    exact (hE j x hj).2.1
  · obtain ⟨y, hy, rfl⟩ := hget j es he
    simp only [Value.slice.injEq] at hv
    exact (hE j y hy).2.2 ad hv.1 i u hu
theorem src_row {α : Type} {sz : Nat} (hs : 0 < sz) {w : World} {tx e : TypeId} (ht : Tryz.prog.underlying tx = some (.slice e)) {A : Option Addr} {n cap : Nat} {xs : List α} (hn : n = xs.length) {L : List (List Value)} (hL : L.length = xs.length) (hl : ∀ es, es ∈ L → es.length = sz)
    (hc : ∀ ad, A = some ad → ∀ (j i : Nat) (es : List Value) u, L[j]? = some es → es[i]? = some u → w.cell? (ad.add (j * sz + i)) = some u) (h1 : ∀ es, es ∈ L → ∀ u ∈ es, u.oneCell' = true) (hA : A = none → n = 0) : Src Tryz.prog sz tx (.slice A n cap) n L.flatten w := by
  cases A with
  | none =>
    obtain rfl := hA rfl
    obtain rfl : L = [] := List.eq_nil_of_length_eq_zero (by omega)
    exact Src.ofNil w ht _
  | some ad =>
    refine Src.ofSlice w ht ad n cap _ (by rw [flat_len L hl, hL, hn]) (fun k u hk => ?_) (fun u hu => ?_)
    · obtain ⟨j, i, es, rfl, hi, hj, hu⟩ := flat_of hs hl hk
      exact hc ad rfl j i es u hj hu
    · obtain ⟨es, he, hue⟩ := List.mem_flatten.1 hu
      exact h1 es he u hue
/-- What an append to a full slice leaves: the new row, in that block or a new one. -/
structure Apd (e sz n0 n b : Nat) (olds news : List Value) (w : World) (v' : Value) (w' : World) : Prop where
  below : Below w.heap.size w w'
  row : ∃ (g cap : Nat) (cs : Array Value), v' = .slice (some ⟨g, 0, none⟩) (n0 + n) cap ∧ Bx w' g e cs ∧ n0 + n ≤ cap ∧ cap ≤ maxLen ∧ cs.size = cap * sz ∧ (∀ (j : Nat) (u : Value), (olds ++ news)[j]? = some u → cs[j]? = some u) ∧ (g = b ∨ w.heap.size ≤ g)
set_option maxRecDepth 100000 in
theorem run_append_full (w : World) (b n0 : Nat) (c0 : Array Value) (ty ts : TypeId) (e : TypeId) (i0 : TypeInfo) (z : Value) (sz bytes : Nat) (ht : Tryz.prog.underlying ts = some (.slice e)) (hi0 : Tryz.prog.info? e = some i0) (hz0 : i0.zero = some z) (hz1 : i0.size = sz) (hz2 : i0.bytes = bytes) (hzc : z.cells.size = sz) (hb : Bx w b e c0) (hc0 : c0.size = n0 * sz)
    (x : Value) (n : Nat) (news : List Value) (hs : Src Tryz.prog sz ts x n news w) (hl : news.length = n * sz) (hn : n0 + n ≤ 1000000) (hby : bytes ≤ 1000) :
    ∃ v' w', (Builtin.append_ #[ts, ts] ty #[.slice (some ⟨b, 0, none⟩) n0 n0, x]).run Tryz.prog w = .ok v' w' ∧ Apd e sz n0 n b c0.toList news w v' w' := by
  subst hz1
  have hbl := hb.lt
  by_cases hy : n = 0
  · subst hy
    obtain rfl : news = [] := List.eq_nil_of_length_eq_zero (by simpa using hl)
    have hrun := run_append_room_src (P := Tryz.prog) w ts ts ty e i0 ht hi0 b 0 n0 n0 x 0 [] hs (by omega) (fun j hj => by simp at hj) (fun j hj => by simp at hj)
    refine ⟨_, _, hrun, Below.refl _ _, b, n0, c0, rfl, hb, by omega, by simp only [maxLen]; omega, hc0, fun j u hj => ?_, .inl rfl⟩
    rw [List.append_nil] at hj
    simpa using hj
  · have hg : n0 < n0 + n := by omega
    have hfit : (n0 + n) * bytes ≤ 1000000 * 1000 := Nat.mul_le_mul hn hby
    have hrun := run_append_grow_src (P := Tryz.prog) w ts ts ty e i0 z ht hi0 hz0 (some ⟨b, 0, none⟩) n0 n0 c0.toList (run_firstCells_some w.drew i0.size n0 ⟨b, 0, none⟩ n0 n0 c0.toList (by simpa using hc0) (fun j u hj => by
      rw [Addr.add_lit, Nat.zero_add]
      have := hb.drew.cell j
      rw [this]
      simpa using hj)) x n news hs hg (by omega)
      (by rw [hz2]; exact growslice_fits hg (by omega))
    have hge := grownCap_ge w (n0 + n) n0 e
    have hcm := grownCap_le_maxLen w (n0 + n) n0 e (by simp only [maxLen]; omega)
    refine ⟨_, _, hrun, ⟨rfl, rfl, rfl, by simp, fun k hk => Below.heap_alloc w.drew _ k hk⟩, w.heap.size, _, _, rfl, heap_alloc_new w.drew _, hge, hcm, ?_, fun j u hj => ?_, .inr (Nat.le_refl _)⟩
    · simp only [Array.size_append, List.size_toArray, size_zeroCells, List.length_append, hl, Array.length_toList, hc0, hzc]
      rw [← Nat.add_mul, ← Nat.add_mul]
      congr 1
      omega
    · have hjl := (List.getElem?_eq_some_iff.1 hj).1
      rw [Array.getElem?_append_left (by simpa using hjl)]
      simpa using hj
end Go.Proofs.YtdkjkgokllmkmaaGreatDoor.Lv
