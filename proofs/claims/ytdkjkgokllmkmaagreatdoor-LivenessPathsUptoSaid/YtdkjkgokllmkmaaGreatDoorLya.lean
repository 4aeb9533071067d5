/- Opening an argument, and how much it holds. -/
import Derived.Test.YtdkjkgokllmkmaaGreatDoorRows
import Derived.Test.YtdkjkgokllmkmaaGreatDoorLxr
namespace Go.Proofs.YtdkjkgokllmkmaaGreatDoor.Lv
open Go.ChangeShapes Go.WideShapes Go.ChangeAt Go.RowKit
set_option linter.unusedVariables false
theorem bulk_one {H : Type} (d : DataW H) : 1 ≤ Rows.uptoBulk d := by
  cases d with
  | lit l => cases l <;> simp [Rows.uptoBulk]
  | nil => simp [Rows.uptoBulk]
  | ptr d => simp [Rows.uptoBulk]
  | slice elems spare => simp [Rows.uptoBulk]
  | agg parts => simp [Rows.uptoBulk]
  | iface t d => simp [Rows.uptoBulk]
  | map entries => simp [Rows.uptoBulk]
  | held h => simp [Rows.uptoBulk]
theorem bulk_part {H : Type} {d : DataW H} {l : List (DataW H)} (h : d ∈ l) : Rows.uptoBulk d ≤ Rows.uptoBulkAll l := by
  induction l with
  | nil => cases h
  | cons x r ih =>
    simp only [Rows.uptoBulkAll]
    rcases List.mem_cons.1 h with e | e
    · subst e; omega
    · have := ih e; omega
theorem bulk_sum {H : Type} : ∀ (l : List (DataW H)) (g : Nat → Nat), (∀ i d, l[i]? = some d → g i ≤ Rows.uptoBulk d) → ((List.range l.length).map g).sum ≤ Rows.uptoBulkAll l
  | [], g, _ => by simp [Rows.uptoBulkAll]
  | x :: l, g, h => by
    have h1 := bulk_sum l (fun i => g (i + 1)) (fun i d hd => h (i + 1) d (by simpa using hd))
    have h0 := h 0 x rfl
    rw [List.length_cons, List.range_succ_eq_map, List.map_cons, List.map_map, List.sum_cons]
    simp only [Rows.uptoBulkAll]
    have e : (g ∘ Nat.succ) = fun i => g (i + 1) := rfl
    rw [e]
    omega
section
variable {H : Type} {enc : TypeId × Value → H} {w : World} {base : Nat} {spare : Nat → Bool} {held : Bool}
theorem rsl_bulk {α : Type} [Inhabited α] {K : Lk → α → List Value → Prop} (m : α → Nat) {sz : Nat} {t e : TypeId} {fuel : Nat} {cs : List Value} {x : DataW H × List MemPlace} (ht : Tryz.prog.underlying t = some (.slice e)) (hc : Tryz.prog.cellsOf e = sz)
    (h : DataW.trod enc Tryz.prog w base spare held fuel t cs = some x) (hE : ∀ n cs' y, n < fuel → DataW.trod enc Tryz.prog w base spare held n e cs' = some y → ∃ a, K w.cell? a cs' ∧ m a ≤ Rows.uptoBulk y.1) : ∃ v xs, cs = [v] ∧ RSl K sz w.cell? v xs ∧ (xs.map m).sum ≤ Rows.uptoBulk x.1 := by
  rcases DataW.trod_slice ht h with ⟨rfl, _⟩ | ⟨a, len, cap, elems, rest, n, rfl, rfl, hx, hb, hl, hm, hlen, hel, _⟩
  · exact ⟨_, [], rfl, RSl.nil _ _ _, by simp⟩
  · have hx' : ∀ i, ∃ z : α × List Value, i < len → w.cells? base (a.add (i * sz)) sz = some z.2 ∧ K w.cell? z.1 z.2 ∧ ∀ y, elems[i]? = some y → m z.1 ≤ Rows.uptoBulk y.1 := fun i => by
      by_cases hi : i < len
      · have h1 := hel i hi
        rw [List.getElem?_eq_getElem (by omega)] at h1
        obtain ⟨cs', h2, h3⟩ := Option.bind_eq_some_iff.1 h1
        obtain ⟨y, hy, hy2⟩ := hE n cs' _ (Nat.lt_succ_self n) h3
        rw [hc] at h2
        refine ⟨(y, cs'), fun _ => ⟨h2, hy, fun z hz => ?_⟩⟩
        rw [List.getElem?_eq_getElem (by omega)] at hz
        simp only [Option.some.injEq] at hz
        subst hz
        exact hy2
      · exact ⟨(default, []), fun hn => absurd hn hi⟩
    obtain ⟨f, hf⟩ := Classical.axiomOfChoice hx'
    refine ⟨_, (List.range len).map fun i => (f i).1, rfl, ⟨some a, cap, by simp, by simpa using hl, hm, fun j y hj => ?_⟩, ?_⟩
    · have hjl : j < len := by
        have := (List.getElem?_eq_some_iff.1 hj).1
        simpa using this
      obtain ⟨h1, h2, _⟩ := hf j hjl
      simp only [List.getElem?_map, List.getElem?_range hjl, Option.map_some, Option.some.injEq] at hj
      subst hj
      obtain ⟨_, h4, h5⟩ := World.cells?_some h1
      refine ⟨a, _, rfl, h4, h2, fun i u hu => ?_⟩
      have hi := (List.getElem?_eq_some_iff.1 hu).1
      rw [h4] at hi
      have := h5 i hi
      rw [hu, Addr.add_add] at this
      exact this
    · have h9 := bulk_sum (elems.map (·.1)) (fun i => m (f i).1) (fun i d hd => by
        rw [List.getElem?_map, Option.map_eq_some_iff] at hd
        obtain ⟨y, hy, rfl⟩ := hd
        have hil := (List.getElem?_eq_some_iff.1 hy).1
        exact (hf i (by omega)).2.2 y hy)
      rw [List.length_map, hlen] at h9
      rw [hx, List.map_map]
      simp only [Rows.uptoBulk]
      have e : (m ∘ fun i => (f i).1) = fun i => m (f i).1 := rfl
      rw [e]
      omega
theorem sum_one {α : Type} (l : List α) : (l.map fun _ => 1).sum = l.length := by
  induction l with
  | nil => rfl
  | cons x l ih => rw [List.map_cons, List.sum_cons, ih, List.length_cons]; omega
theorem blk_bulk {fuel : Nat} {cs : List Value} {x : DataW H × List MemPlace} (h : DataW.trod enc Tryz.prog w base spare held fuel 66 cs = some x) : ∃ a, KBlk w.cell? a cs ∧ a.code.length + 1 ≤ Rows.uptoBulk x.1 := by
  obtain ⟨xs, n, rfl, hx, hl, hlen, hf⟩ := DataW.trod_struct Tryz.underlying66 h
  rw [cells66] at hl
  obtain ⟨c0, c1, c2, c3, rfl⟩ := list4 hl
  have hxs : xs.length = 2 := hlen
  have h0 : DataW.trod enc Tryz.prog w base spare held n 62 (([c0, c1, c2, c3].drop 0).take (Tryz.prog.cellsOf 62)) = xs[0]? := hf 0 _ rfl
  have h1 : DataW.trod enc Tryz.prog w base spare held n 64 (([c0, c1, c2, c3].drop 1).take (Tryz.prog.cellsOf 64)) = xs[1]? := hf 1 _ rfl
  rw [List.getElem?_eq_getElem (by omega)] at h0 h1
  simp only [cells62, cells64, List.drop_zero, List.take_succ_cons, List.take_zero, List.drop_succ_cons] at h0 h1
  obtain ⟨v0, a0, e0, k0, hb⟩ := rsl_bulk (K := KIns) (fun _ => 1) Tryz.underlying62 cells55 h0 (fun m cs' y hm hy => by
    obtain ⟨a, ha⟩ := ins_open hy
    exact ⟨a, ha, bulk_one _⟩)
  obtain ⟨a1, v1, e1, k1⟩ := term_open h1
  simp only [List.cons.injEq, and_true] at e0 e1
  obtain ⟨rfl, rfl, rfl⟩ := e1
  subst e0
  refine ⟨⟨a0, a1⟩, ⟨_, _, rfl, k0, k1⟩, ?_⟩
  rw [sum_one] at hb
  have h2 : Rows.uptoBulk xs[0].1 ≤ Rows.uptoBulkAll (xs.map (·.1)) := bulk_part (List.mem_map.2 ⟨_, List.getElem_mem (by omega), rfl⟩)
  rw [hx]
  simp only [Rows.uptoBulk]
  omega
theorem pts_sum (l : List Blk) : ∀ b, (ptsFrom b l).length = (l.map fun B => B.code.length + 1).sum := by
  induction l with
  | nil => intro b; rfl
  | cons B l ih =>
    intro b
    rw [ptsFrom, List.length_append, ih, List.map_cons, List.sum_cons]
    simp [ptsB]
set_option maxRecDepth 10000 in
theorem func_bulk {r : Reach} {b0 : Nat} {v : Value} {d : DataW H} {ps : List MemPlace} (hval : Value.okWide Tryz.prog w r b0 29 v) (hd : DataW.Trod enc Tryz.prog w base spare held 29 v d ps) : ∃ F, RFn w.cell? v F ∧ (pts F).length ≤ Rows.uptoBulk d := by
  obtain ⟨cs, rfl, hsz⟩ := okWide_struct Tryz.underlying29 hval
  obtain ⟨fuel, h⟩ := hd
  obtain ⟨xs, n, rfl, hx, hl, hlen, hf⟩ := DataW.trod_struct Tryz.underlying29 h
  rw [cells29] at hsz
  obtain ⟨cs⟩ := cs
  obtain ⟨c0, c1, c2, c3, c4, c5, c6, c7, c8, c9, c10, rfl⟩ := list11 (show cs.length = 11 from hsz)
  have hxs : xs.length = 9 := hlen
  have h0 : DataW.trod enc Tryz.prog w base spare held n 9 (([c0, c1, c2, c3, c4, c5, c6, c7, c8, c9, c10].drop 0).take (Tryz.prog.cellsOf 9)) = xs[0]? := hf 0 _ rfl
  have h1 : DataW.trod enc Tryz.prog w base spare held n 3 (([c0, c1, c2, c3, c4, c5, c6, c7, c8, c9, c10].drop 1).take (Tryz.prog.cellsOf 3)) = xs[1]? := hf 1 _ rfl
  have h2 : DataW.trod enc Tryz.prog w base spare held n 3 (([c0, c1, c2, c3, c4, c5, c6, c7, c8, c9, c10].drop 2).take (Tryz.prog.cellsOf 3)) = xs[2]? := hf 2 _ rfl
  have h3 : DataW.trod enc Tryz.prog w base spare held n 22 (([c0, c1, c2, c3, c4, c5, c6, c7, c8, c9, c10].drop 3).take (Tryz.prog.cellsOf 22)) = xs[3]? := hf 3 _ rfl
  have h4 : DataW.trod enc Tryz.prog w base spare held n 3 (([c0, c1, c2, c3, c4, c5, c6, c7, c8, c9, c10].drop 4).take (Tryz.prog.cellsOf 3)) = xs[4]? := hf 4 _ rfl
  have h5 : DataW.trod enc Tryz.prog w base spare held n 25 (([c0, c1, c2, c3, c4, c5, c6, c7, c8, c9, c10].drop 5).take (Tryz.prog.cellsOf 25)) = xs[5]? := hf 5 _ rfl
  have h6 : DataW.trod enc Tryz.prog w base spare held n 23 (([c0, c1, c2, c3, c4, c5, c6, c7, c8, c9, c10].drop 8).take (Tryz.prog.cellsOf 23)) = xs[6]? := hf 6 _ rfl
  have h7 : DataW.trod enc Tryz.prog w base spare held n 26 (([c0, c1, c2, c3, c4, c5, c6, c7, c8, c9, c10].drop 9).take (Tryz.prog.cellsOf 26)) = xs[7]? := hf 7 _ rfl
  have h8 : DataW.trod enc Tryz.prog w base spare held n 27 (([c0, c1, c2, c3, c4, c5, c6, c7, c8, c9, c10].drop 10).take (Tryz.prog.cellsOf 27)) = xs[8]? := hf 8 _ rfl
  rw [List.getElem?_eq_getElem (by omega)] at h0 h1 h2 h3 h4 h5 h6 h7 h8
  simp only [cells3, cells9, cells22, cells23, cells25, cells26, cells27, List.drop_zero, List.take_succ_cons, List.take_zero, List.drop_succ_cons] at h0 h1 h2 h3 h4 h5 h6 h7 h8
  obtain ⟨s, e0, _⟩ := DataW.trod_string Tryz.underlying9 h0
  obtain ⟨a1, e1⟩ := int_open h1
  obtain ⟨a2, e2⟩ := int_open h2
  obtain ⟨A3, n3, k3, e3, m3⟩ := bounds_open h3
  obtain ⟨a4, e4⟩ := int_open h4
  obtain ⟨a5, m5⟩ := ty_open _ h5
  obtain ⟨v5, e5, k5⟩ := m5.open
  obtain ⟨v6, a6, e6, k6⟩ := tys_open h6
  obtain ⟨v7, a7, e7, k7, hb⟩ := rsl_bulk (K := KBlk) (fun B => B.code.length + 1) Tryz.underlying26 cells66 h7 (fun m cs' y hm hy => blk_bulk hy)
  obtain ⟨v8, a8, e8, m8⟩ := ints_open h8
  obtain ⟨A8, k8, rfl, q1, q2, _⟩ := m8
  simp only [List.cons.injEq, and_true] at e0 e1 e2 e3 e4 e5 e6 e7 e8
  obtain ⟨rfl, rfl, rfl⟩ := e5
  subst e0 e1 e2 e3 e4 e6 e7 e8
  refine ⟨⟨s, 0, 0, [], 0, a5, a6, a7, []⟩, ⟨a1, a2, a4, _, _, _, _, _, A3, A8, n3, k3, a8.length, k8, rfl, rfl, rfl, m3, by omega, k5, k6, k7⟩, ?_⟩
  have h9 : Rows.uptoBulk xs[7].1 ≤ Rows.uptoBulkAll (xs.map (·.1)) := bulk_part (List.mem_map.2 ⟨_, List.getElem_mem (by omega), rfl⟩)
  have e : d = .agg (xs.map (·.1)) := by
    simp only [Prod.mk.injEq] at hx
    exact hx.1
  rw [e]
  unfold pts
  rw [pts_sum]
  simp only [Rows.uptoBulk]
  omega
end
end Go.Proofs.YtdkjkgokllmkmaaGreatDoor.Lv
