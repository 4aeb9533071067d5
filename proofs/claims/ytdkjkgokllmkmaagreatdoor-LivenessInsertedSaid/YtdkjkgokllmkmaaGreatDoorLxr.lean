/- Opening the arguments: what reads as an api.Func is a function of the plain side. -/
import Derived.Test.YtdkjkgokllmkmaaGreatDoorLvb
import Derived.ProofKit
import Derived.OpenShut
import Derived.ChangeArms
namespace Go.Proofs.YtdkjkgokllmkmaaGreatDoor.Lv
open Go.ChangeShapes Go.WideShapes Go.ChangeAt Go.RowKit
set_option linter.unusedVariables false
section
variable {H : Type} {enc : TypeId × Value → H} {w : World} {base : Nat} {spare : Nat → Bool} {held : Bool}
theorem rsl_open {α : Type} [Inhabited α] {K : Lk → α → List Value → Prop} {sz : Nat} {t e : TypeId} {fuel : Nat} {cs : List Value} {x : DataW H × List MemPlace} (ht : Tryz.prog.underlying t = some (.slice e)) (hc : Tryz.prog.cellsOf e = sz)
    (h : DataW.trod enc Tryz.prog w base spare held fuel t cs = some x) (hE : ∀ n cs' y, n < fuel → DataW.trod enc Tryz.prog w base spare held n e cs' = some y → ∃ a, K w.cell? a cs') : ∃ v xs, cs = [v] ∧ RSl K sz w.cell? v xs := by
  rcases DataW.trod_slice ht h with ⟨rfl, _⟩ | ⟨a, len, cap, elems, rest, n, rfl, rfl, _, hb, hl, hm, hlen, hel, _⟩
  · exact ⟨_, [], rfl, RSl.nil _ _ _⟩
  · have hx : ∀ i, ∃ z : α × List Value, i < len → w.cells? base (a.add (i * sz)) sz = some z.2 ∧ K w.cell? z.1 z.2 := fun i => by
      by_cases hi : i < len
      · have h1 := hel i hi
        rw [List.getElem?_eq_getElem (by omega)] at h1
        obtain ⟨cs', h2, h3⟩ := Option.bind_eq_some_iff.1 h1
        obtain ⟨y, hy⟩ := hE n cs' _ (Nat.lt_succ_self n) h3
        rw [hc] at h2
        exact ⟨(y, cs'), fun _ => ⟨h2, hy⟩⟩
      · exact ⟨(default, []), fun hn => absurd hn hi⟩
    obtain ⟨f, hf⟩ := Classical.axiomOfChoice hx
    refine ⟨_, (List.range len).map fun i => (f i).1, rfl, some a, cap, by simp, by simpa using hl, hm, fun j y hj => ?_⟩
    have hjl : j < len := by
      have := (List.getElem?_eq_some_iff.1 hj).1
      simpa using this
    obtain ⟨h1, h2⟩ := hf j hjl
    simp only [List.getElem?_map, List.getElem?_range hjl, Option.map_some, Option.some.injEq] at hj
    subst hj
    obtain ⟨_, h4, h5⟩ := World.cells?_some h1
    refine ⟨a, _, rfl, h4, h2, fun i u hu => ?_⟩
    have hi := (List.getElem?_eq_some_iff.1 hu).1
    rw [h4] at hi
    have := h5 i hi
    rw [hu, Addr.add_add] at this
    exact this
theorem KTy.close {c : Lk} {k i : Int} {v : Value} {args : List Ty} (h : RSl KTy 3 c v args) : KTy c (.mk k i args) [.int .i64 k, .int .i64 i, v] := by
  obtain ⟨A, cap, rfl, h1, h2, h3⟩ := h
  cases args with
  | nil => exact .mk k i [] A cap ⟨0, 0, none⟩ (fun _ => []) h1 h2 (fun h => by simp at h) (fun j h => by simp at h) (fun j x h => by simp at h) (fun j i u h => by simp at h)
  | cons y ys =>
    obtain ⟨ad, _, rfl, _⟩ := h3 0 y rfl
    have hx : ∀ j, ∃ es : List Value, j < (y :: ys).length → es.length = 3 ∧ (∀ x, (y :: ys)[j]? = some x → KTy c x es) ∧ ∀ i u, es[i]? = some u → c (ad.add (j * 3 + i)) = some u := fun j => by
      by_cases hj : j < (y :: ys).length
      · obtain ⟨ad', es, e1, e2, e3, e4⟩ := h3 j _ (List.getElem?_eq_getElem hj)
        simp only [Option.some.injEq] at e1
        subst e1
        refine ⟨es, fun _ => ⟨e2, fun x hx => ?_, e4⟩⟩
        rw [List.getElem?_eq_getElem hj] at hx
        simp only [Option.some.injEq] at hx
        subst hx
        exact e3
      · exact ⟨[], fun hn => absurd hn hj⟩
    obtain ⟨E, hE⟩ := Classical.axiomOfChoice hx
    exact .mk k i _ _ cap ad E h1 h2 (fun _ => rfl) (fun j hj => (hE j hj).1) (fun j x hj => (hE j (List.getElem?_eq_some_iff.1 hj).1).2.1 x hj) (fun j i u hj => (hE j hj).2.2 i u)
theorem int_open {fuel : Nat} {cs : List Value} {x : DataW H × List MemPlace} (h : DataW.trod enc Tryz.prog w base spare held fuel 3 cs = some x) : ∃ a : Int, cs = [.int .i64 a] := by
  obtain ⟨n, rfl, _⟩ := DataW.trod_int Tryz.underlying3 h
  exact ⟨n, rfl⟩
theorem ints_open {fuel : Nat} {cs : List Value} {x : DataW H × List MemPlace} (h : DataW.trod enc Tryz.prog w base spare held fuel 27 cs = some x) : ∃ v xs, cs = [v] ∧ RInts w.cell? v xs :=
  rsl_open (K := KInt) Tryz.underlying27 (by kernel_rfl) h (fun n cs' y _ h => int_open h)
theorem part {cs : List Value} {k n : Nat} {u : List Value} (hl : k + n ≤ cs.length) (h : (cs.drop k).take n = u) : ∀ i, i < n → cs[k + i]? = u[i]? := fun i hi => by
  rw [← h, List.getElem?_take, if_pos hi, List.getElem?_drop]
theorem list3 {α : Type} {cs : List α} (h : cs.length = 3) : ∃ a b c, cs = [a, b, c] := by
  match cs, h with
  | [a, b, c], _ => exact ⟨a, b, c, rfl⟩
theorem list4 {α : Type} {cs : List α} (h : cs.length = 4) : ∃ a b c d, cs = [a, b, c, d] := by
  match cs, h with
  | [a, b, c, d], _ => exact ⟨a, b, c, d, rfl⟩
theorem list7 {α : Type} {cs : List α} (h : cs.length = 7) : ∃ a b c d e f g, cs = [a, b, c, d, e, f, g] := by
  match cs, h with
  | [a, b, c, d, e, f, g], _ => exact ⟨a, b, c, d, e, f, g, rfl⟩
set_option maxRecDepth 10000 in
theorem list11 {α : Type} {cs : List α} (h : cs.length = 11) : ∃ a b c d e f g h i j k, cs = [a, b, c, d, e, f, g, h, i, j, k] := by
  match cs, h with
  | [a, b, c, d, e, f, g, h, i, j, k], _ => exact ⟨a, b, c, d, e, f, g, h, i, j, k, rfl⟩
theorem cells3 : Tryz.prog.cellsOf 3 = 1 := by kernel_rfl
theorem cells4 : Tryz.prog.cellsOf 4 = 1 := by kernel_rfl
theorem cells9 : Tryz.prog.cellsOf 9 = 1 := by kernel_rfl
theorem cells22 : Tryz.prog.cellsOf 22 = 1 := by kernel_rfl
theorem cells23 : Tryz.prog.cellsOf 23 = 1 := by kernel_rfl
theorem cells25 : Tryz.prog.cellsOf 25 = 3 := by kernel_rfl
theorem cells26 : Tryz.prog.cellsOf 26 = 1 := by kernel_rfl
theorem cells27 : Tryz.prog.cellsOf 27 = 1 := by kernel_rfl
theorem cells29 : Tryz.prog.cellsOf 29 = 11 := by kernel_rfl
theorem cells55 : Tryz.prog.cellsOf 55 = 7 := by kernel_rfl
theorem cells62 : Tryz.prog.cellsOf 62 = 1 := by kernel_rfl
theorem cells64 : Tryz.prog.cellsOf 64 = 3 := by kernel_rfl
theorem cells66 : Tryz.prog.cellsOf 66 = 4 := by kernel_rfl
theorem ty_open : ∀ (fuel : Nat) {cs : List Value} {x : DataW H × List MemPlace}, DataW.trod enc Tryz.prog w base spare held fuel 25 cs = some x → ∃ a, KTy w.cell? a cs := by
  intro fuel
  induction fuel using Nat.strongRecOn with
  | ind fuel ih =>
    intro cs x h
    obtain ⟨xs, n, rfl, _, hl, hlen, hf⟩ := DataW.trod_struct Tryz.underlying25 h
    rw [cells25] at hl
    obtain ⟨c0, c1, c2, rfl⟩ := list3 hl
    have hxs : xs.length = 3 := hlen
    have h0 : DataW.trod enc Tryz.prog w base spare held n 3 (([c0, c1, c2].drop 0).take (Tryz.prog.cellsOf 3)) = xs[0]? := hf 0 _ rfl
    have h1 : DataW.trod enc Tryz.prog w base spare held n 3 (([c0, c1, c2].drop 1).take (Tryz.prog.cellsOf 3)) = xs[1]? := hf 1 _ rfl
    have h2 : DataW.trod enc Tryz.prog w base spare held n 23 (([c0, c1, c2].drop 2).take (Tryz.prog.cellsOf 23)) = xs[2]? := hf 2 _ rfl
    rw [List.getElem?_eq_getElem (by omega)] at h0 h1 h2
    simp only [cells3, cells23, List.drop_zero, List.take_succ_cons, List.take_zero, List.drop_succ_cons] at h0 h1 h2
    obtain ⟨k, e0⟩ := int_open h0
    obtain ⟨i, e1⟩ := int_open h1
    obtain ⟨v, args, e2, hr⟩ := rsl_open (K := KTy) Tryz.underlying23 cells25 h2 (fun m cs' y hm hy => ih m (by omega) hy)
    simp only [List.cons.injEq, and_true] at e0 e1 e2
    subst e0 e1 e2
    exact ⟨_, KTy.close hr⟩
theorem tys_open {fuel : Nat} {cs : List Value} {x : DataW H × List MemPlace} (h : DataW.trod enc Tryz.prog w base spare held fuel 23 cs = some x) : ∃ v xs, cs = [v] ∧ RSl KTy 3 w.cell? v xs :=
  rsl_open (K := KTy) Tryz.underlying23 cells25 h (fun n cs' y _ h => ty_open n h)
theorem ins_open {fuel : Nat} {cs : List Value} {x : DataW H × List MemPlace} (h : DataW.trod enc Tryz.prog w base spare held fuel 55 cs = some x) : ∃ a, KIns w.cell? a cs := by
  obtain ⟨xs, n, rfl, _, hl, hlen, hf⟩ := DataW.trod_struct Tryz.underlying55 h
  rw [cells55] at hl
  obtain ⟨c0, c1, c2, c3, c4, c5, c6, rfl⟩ := list7 hl
  have hxs : xs.length = 7 := hlen
  have h0 : DataW.trod enc Tryz.prog w base spare held n 3 (([c0, c1, c2, c3, c4, c5, c6].drop 0).take (Tryz.prog.cellsOf 3)) = xs[0]? := hf 0 _ rfl
  have h1 : DataW.trod enc Tryz.prog w base spare held n 3 (([c0, c1, c2, c3, c4, c5, c6].drop 1).take (Tryz.prog.cellsOf 3)) = xs[1]? := hf 1 _ rfl
  have h2 : DataW.trod enc Tryz.prog w base spare held n 3 (([c0, c1, c2, c3, c4, c5, c6].drop 2).take (Tryz.prog.cellsOf 3)) = xs[2]? := hf 2 _ rfl
  have h3 : DataW.trod enc Tryz.prog w base spare held n 3 (([c0, c1, c2, c3, c4, c5, c6].drop 3).take (Tryz.prog.cellsOf 3)) = xs[3]? := hf 3 _ rfl
  have h4 : DataW.trod enc Tryz.prog w base spare held n 3 (([c0, c1, c2, c3, c4, c5, c6].drop 4).take (Tryz.prog.cellsOf 3)) = xs[4]? := hf 4 _ rfl
  have h5 : DataW.trod enc Tryz.prog w base spare held n 27 (([c0, c1, c2, c3, c4, c5, c6].drop 5).take (Tryz.prog.cellsOf 27)) = xs[5]? := hf 5 _ rfl
  have h6 : DataW.trod enc Tryz.prog w base spare held n 23 (([c0, c1, c2, c3, c4, c5, c6].drop 6).take (Tryz.prog.cellsOf 23)) = xs[6]? := hf 6 _ rfl
  rw [List.getElem?_eq_getElem (by omega)] at h0 h1 h2 h3 h4 h5 h6
  simp only [cells3, cells23, cells27, List.drop_zero, List.take_succ_cons, List.take_zero, List.drop_succ_cons] at h0 h1 h2 h3 h4 h5 h6
  obtain ⟨a0, e0⟩ := int_open h0
  obtain ⟨a1, e1⟩ := int_open h1
  obtain ⟨a2, e2⟩ := int_open h2
  obtain ⟨a3, e3⟩ := int_open h3
  obtain ⟨a4, e4⟩ := int_open h4
  obtain ⟨v5, a5, e5, h5⟩ := ints_open h5
  obtain ⟨v6, a6, e6, h6⟩ := tys_open h6
  simp only [List.cons.injEq, and_true] at e0 e1 e2 e3 e4 e5 e6
  subst e0 e1 e2 e3 e4 e5 e6
  exact ⟨⟨a0, a1, a2, a3, a4, a5, a6⟩, _, _, rfl, h5, h6⟩
theorem term_open {fuel : Nat} {cs : List Value} {x : DataW H × List MemPlace} (h : DataW.trod enc Tryz.prog w base spare held fuel 64 cs = some x) : ∃ a, KTerm w.cell? a cs := by
  obtain ⟨xs, n, rfl, _, hl, hlen, hf⟩ := DataW.trod_struct Tryz.underlying64 h
  rw [cells64] at hl
  obtain ⟨c0, c1, c2, rfl⟩ := list3 hl
  have hxs : xs.length = 3 := hlen
  have h0 : DataW.trod enc Tryz.prog w base spare held n 3 (([c0, c1, c2].drop 0).take (Tryz.prog.cellsOf 3)) = xs[0]? := hf 0 _ rfl
  have h1 : DataW.trod enc Tryz.prog w base spare held n 3 (([c0, c1, c2].drop 1).take (Tryz.prog.cellsOf 3)) = xs[1]? := hf 1 _ rfl
  have h2 : DataW.trod enc Tryz.prog w base spare held n 27 (([c0, c1, c2].drop 2).take (Tryz.prog.cellsOf 27)) = xs[2]? := hf 2 _ rfl
  rw [List.getElem?_eq_getElem (by omega)] at h0 h1 h2
  simp only [cells3, cells27, List.drop_zero, List.take_succ_cons, List.take_zero, List.drop_succ_cons] at h0 h1 h2
  obtain ⟨a0, e0⟩ := int_open h0
  obtain ⟨a1, e1⟩ := int_open h1
  obtain ⟨v2, a2, e2, h2⟩ := ints_open h2
  simp only [List.cons.injEq, and_true] at e0 e1 e2
  subst e0 e1 e2
  exact ⟨⟨a0, a1, a2⟩, _, rfl, h2⟩
theorem blk_open {fuel : Nat} {cs : List Value} {x : DataW H × List MemPlace} (h : DataW.trod enc Tryz.prog w base spare held fuel 66 cs = some x) : ∃ a, KBlk w.cell? a cs := by
  obtain ⟨xs, n, rfl, _, hl, hlen, hf⟩ := DataW.trod_struct Tryz.underlying66 h
  rw [cells66] at hl
  obtain ⟨c0, c1, c2, c3, rfl⟩ := list4 hl
  have hxs : xs.length = 2 := hlen
  have h0 : DataW.trod enc Tryz.prog w base spare held n 62 (([c0, c1, c2, c3].drop 0).take (Tryz.prog.cellsOf 62)) = xs[0]? := hf 0 _ rfl
  have h1 : DataW.trod enc Tryz.prog w base spare held n 64 (([c0, c1, c2, c3].drop 1).take (Tryz.prog.cellsOf 64)) = xs[1]? := hf 1 _ rfl
  rw [List.getElem?_eq_getElem (by omega)] at h0 h1
  simp only [cells62, cells64, List.drop_zero, List.take_succ_cons, List.take_zero, List.drop_succ_cons] at h0 h1
  obtain ⟨v0, a0, e0, h0⟩ := rsl_open (K := KIns) Tryz.underlying62 cells55 h0 (fun m cs' y hm hy => ins_open hy)
  obtain ⟨a1, v1, e1, h1⟩ := term_open h1
  simp only [List.cons.injEq, and_true] at e0 e1
  obtain ⟨rfl, rfl, rfl⟩ := e1
  subst e0
  exact ⟨⟨a0, a1⟩, _, _, rfl, h0, h1⟩
theorem bounds_open {fuel : Nat} {cs : List Value} {x : DataW H × List MemPlace} (h : DataW.trod enc Tryz.prog w base spare held fuel 22 cs = some x) : ∃ A n k, cs = [.slice A n k] ∧ n ≤ maxLen := by
  rcases DataW.trod_slice Tryz.underlying22 h with ⟨rfl, _⟩ | ⟨a, len, cap, elems, rest, n, rfl, rfl, _, hb, hl, hm, _⟩
  · exact ⟨none, 0, 0, rfl, by simp⟩
  · exact ⟨some a, len, cap, rfl, by omega⟩
set_option maxRecDepth 10000 in
theorem func_open {r : Reach} {b0 : Nat} {v : Value} {d : DataW H} {ps : List MemPlace} (hval : Value.okWide Tryz.prog w r b0 29 v) (hd : DataW.Trod enc Tryz.prog w base spare held 29 v d ps) : ∃ F, RFn w.cell? v F := by
  obtain ⟨cs, rfl, hsz⟩ := okWide_struct Tryz.underlying29 hval
  obtain ⟨fuel, h⟩ := hd
  obtain ⟨xs, n, rfl, _, hl, hlen, hf⟩ := DataW.trod_struct Tryz.underlying29 h
  rw [cells29] at hsz
  obtain ⟨cs⟩ := cs
  obtain ⟨c0, c1, c2, c3, c4, c5, c6, c7, c8, c9, c10, rfl⟩ := list11 (show cs.length = 11 from hsz)
  have hxs : xs.length = 9 := hlen
  have h0 : DataW.trod enc Tryz.prog w base spare held n 9 (([c0, c1, c2, c3, c4, c5, c6, c7, c8, c9, c10].drop 0).take (Tryz.prog.cellsOf 9)) = xs[0]? := hf 0 _ rfl
  have h1 : DataW.trod enc Tryz.prog w base spare held n 3 (([c0, c1, c2, c3, c4, c5, c6, c7, c8, c9, c10].drop 1).take (Tryz.prog.cellsOf 3)) = xs[1]? := hf 1 _ rfl
  have h2 : DataW.trod enc Tryz.prog w base spare held n 3 (([c0, c1, c2, c3, c4, c5, c6, c7, c8, c9, c10].drop 2).take (Tryz.prog.cellsOf 3)) = xs[2]? := hf 2 _ rfl
  have h3 : DataW.trod enc Tryz.prog w base spare held n 22 (([c0, c1, c2, c3, c4, c5, c6, c7, c8, c9, c10].drop 3).take (Tryz.prog.cellsOf 22)) = xs[3]? := hf 3 _ rfl
  have h4 : DataW.trod enc Tryz.prog w base spare held n 3 (([c0, c1, c2, c3, c4, c5, c6, c7, c8, c9, c10].drop 4).take (Tryz.prog.cellsOf 3)) = xs[4]? := hf 4 _ rfl
  have h5 : DataW.trod enc Tryz.prog w base spare held n 25 (([c0, c1, c2, c3, c4, c5, c6, c7, c8, c9, c10].drop 5).take (Tryz.prog.cellsOf 25)) = xs[5]? := hf 5 _ rfl
  have h6 : DataW.trod enc Tryz.prog w base spare held n 23 (([c0, c1, c2, c3, c4, c5, c6, c7, c8, c9, c10].drop 8).take (Tryz.prog.cellsOf 23)) = xs[6]? := hf 6 _ rfl
  have h7 : DataW.trod enc Tryz.prog w base spare held n 26 (([c0, c1, c2, c3, c4, c5, c6, c7, c8, c9, c10].drop 9).take (Tryz.prog.cellsOf 26)) = xs[7]? := hf 7 _ rfl
  have h8 : DataW.trod enc Tryz.prog w base spare held n 27 (([c0, c1, c2, c3, c4, c5, c6, c7, c8, c9, c10].drop 10).take (Tryz.prog.cellsOf 27)) = xs[8]? := hf 8 _ rfl
  rw [List.getElem?_eq_getElem (by omega)] at h0 h1 h2 h3 h4 h5 h6 h7 h8
  simp only [cells3, cells9, cells22, cells23, cells25, cells26, cells27, List.drop_zero, List.take_succ_cons, List.take_zero, List.drop_succ_cons] at h0 h1 h2 h3 h4 h5 h6 h7 h8
  obtain ⟨s, e0, _⟩ := DataW.trod_string Tryz.underlying9 h0
  obtain ⟨a1, e1⟩ := int_open h1
  obtain ⟨a2, e2⟩ := int_open h2
  obtain ⟨A3, n3, k3, e3, m3⟩ := bounds_open h3
  obtain ⟨a4, e4⟩ := int_open h4
  obtain ⟨a5, m5⟩ := ty_open _ h5
  obtain ⟨v5, e5, k5⟩ := m5.open
  obtain ⟨v6, a6, e6, k6⟩ := tys_open h6
  obtain ⟨v7, a7, e7, k7⟩ := rsl_open (K := KBlk) Tryz.underlying26 cells66 h7 (fun m cs' y hm hy => blk_open hy)
  obtain ⟨v8, a8, e8, m8⟩ := ints_open h8
  obtain ⟨A8, k8, rfl, q1, q2, _⟩ := m8
  simp only [List.cons.injEq, and_true] at e0 e1 e2 e3 e4 e5 e6 e7 e8
  obtain ⟨rfl, rfl, rfl⟩ := e5
  subst e0 e1 e2 e3 e4 e6 e7 e8
  exact ⟨⟨s, 0, 0, [], 0, a5, a6, a7, []⟩, a1, a2, a4, _, _, _, _, _, A3, A8, n3, k3, a8.length, k8, rfl, rfl, rfl, m3, by omega, k5, k6, k7⟩
end
end Go.Proofs.YtdkjkgokllmkmaaGreatDoor.Lv
