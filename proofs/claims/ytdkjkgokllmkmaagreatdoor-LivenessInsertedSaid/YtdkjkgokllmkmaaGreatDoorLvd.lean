/- Walks: taken. -/
import Derived.Test.YtdkjkgokllmkmaaGreatDoorLvc
namespace Go.Proofs.YtdkjkgokllmkmaaGreatDoor.Lv
open Go.RowKit
set_option linter.unusedVariables false
set_option linter.unusedSimpArgs false

/-! ### A block of the call's own, known whole -/
def Bx (w : World) (b t : Nat) (cs : Array Value) : Prop := w.heap[b]? = some (.cells cs t (0, 0))
theorem Bx.lt {w : World} {b t : Nat} {cs : Array Value} (h : Bx w b t cs) : b < w.heap.size := (Array.getElem?_eq_some_iff.1 h).1
theorem Bx.cell {w : World} {b t : Nat} {cs : Array Value} (h : Bx w b t cs) (j : Nat) : w.cell? ⟨b, j, none⟩ = cs[j]? := by simp [World.cell?, show w.heap[b]? = _ from h]
theorem Bx.frozen {w : World} {b t : Nat} {cs : Array Value} (h : Bx w b t cs) (j : Nat) : w.frozen? ⟨b, j, none⟩ = false := by simp [World.frozen?, show w.heap[b]? = _ from h]
theorem Bx.below {w w' : World} {b t : Nat} {cs : Array Value} (h : Bx w b t cs) (hb : Below w.heap.size w w') : Bx w' b t cs := (hb.block b h.lt).trans h
theorem Bx.chg {D : List Nat} {w w' : World} {b t : Nat} {cs : Array Value} (h : Bx w b t cs) (hb : Chg D w w') (hd : b ∉ D) : Bx w' b t cs := (hb.block b h.lt hd).trans h
theorem Bx.alloc {w : World} {b t : Nat} {cs : Array Value} (h : Bx w b t cs) (o : Obj) : Bx (w.alloc o) b t cs := h.below ((Below.refl _ _).alloc (Nat.le_refl _) o)
theorem Bx.drew {w : World} {b t : Nat} {cs : Array Value} (h : Bx w b t cs) : Bx w.drew b t cs := h
theorem Bx.grown {w w' : World} {b t : Nat} {cs : Array Value} (h : Bx w b t cs) {row : Option Nat} (hg : w.grownBy w' row) (hr : some b ≠ row) : Bx w' b t cs := (hg.block b h.lt hr).trans h
theorem Bx.new (w : World) (t : Nat) (cs : Array Value) : Bx (w.alloc (.cells cs t)) w.heap.size t cs := heap_alloc_new w _
theorem Bx.far {w : World} {b t : Nat} {cs : Array Value} (h : Bx w b t cs) {p : Addr} (hp : b ≠ p.block) (u : Value) : Bx (w.setCell p u) b t cs := (Below.heap_setCell w p u b hp).trans h
theorem Bx.set {w : World} {b t : Nat} {cs : Array Value} (h : Bx w b t cs) (j : Nat) (u : Value) : Bx (w.setCell ⟨b, j, none⟩ u) b t (cs.setIfInBounds j u) := by
  unfold Bx at h ⊢
  simp [World.setCell, Array.getElem?_modify, h]
theorem Bx.not_row {w : World} {b t : Nat} {cs : Array Value} (h : Bx w b t cs) {base e sz n : Nat} {v : Value} {xs : List Value} (ho : w.ownsRow base e sz v n xs) (hte : t ≠ e) : some b ≠ v.ownBlock := by
  rcases ho.2 with ⟨rfl, _⟩ | ⟨g, cap, cur, rfl, _, hg, _⟩
  · simp [Value.ownBlock]
  · intro e0
    simp only [Value.ownBlock, Option.some.injEq] at e0
    subst e0
    rw [show w.heap[b]? = _ from h] at hg
    injection hg with hg
    injection hg with _ hg
    exact hte hg

theorem own_below {w w1 : World} {base e sz n : Nat} {v : Value} {xs : List Value} (h : w.ownsRow base e sz v n xs) (hb : Below w.heap.size w w1) : w1.ownsRow base e sz v n xs :=
  h.kept (row := none) ⟨hb.os, hb.tape, hb.output, hb.size, fun k hk _ => hb.block k hk⟩ (by cases v.ownBlock <;> simp)
theorem take_snoc {α : Type} (l : List α) (k : Nat) (d : α) (h : k < l.length) : l.take (k + 1) = l.take k ++ [l.getD k d] := by
  rw [List.take_succ_eq_append_getElem h]
  simp [List.getD_eq_getElem?_getD, h]
def tkU (F : Fn) (cs ms l : List Int) : Us := takes F ⟨cs, ms, [], [], []⟩ l
theorem tkU_nil (F : Fn) (cs ms : List Int) : tkU F cs ms [] = ⟨cs, ms, [], [], []⟩ := rfl
theorem tkU_snoc (F : Fn) (cs ms l : List Int) (x : Int) : tkU F cs ms (l ++ [x]) = take1 F (tkU F cs ms l) x := by simp [tkU, takes, List.foldl_append]
theorem tkU_len (F : Fn) (cs ms l : List Int) : (tkU F cs ms l).copies.length + (tkU F cs ms l).moves.length = cs.length + ms.length + l.length := by
  unfold tkU takes
  suffices h : ∀ (u : Us), (l.foldl (take1 F) u).copies.length + (l.foldl (take1 F) u).moves.length = u.copies.length + u.moves.length + l.length by exact h ⟨cs, ms, [], [], []⟩
  induction l with
  | nil => intro u; simp
  | cons x l ih =>
    intro u
    rw [List.foldl_cons, ih]
    unfold take1
    split <;> simp <;> omega
theorem takes_eq (F : Fn) (u : Us) (l : List Int) : takes F u l = ⟨(tkU F u.copies u.moves l).copies, (tkU F u.copies u.moves l).moves, u.shares, u.lends, u.defs⟩ := by
  unfold tkU takes
  induction l generalizing u with
  | nil => rfl
  | cons x l ih =>
    rw [List.foldl_cons, List.foldl_cons, ih]
    unfold take1
    split <;> rfl

theorem undrew {w w' : World} {r : Option Nat} (h : w.drew.grownBy w' r) : w.grownBy w' r := ⟨h.os, h.tape, h.output, h.size, h.block⟩
structure TkR (D : List Nat) (W : World) (fc : Array Value) (s2 s3 s4 : Value) (cs ms : List Int) (N : Nat) (wr : World) (vc vm : Value) : Prop where
  bF : Bx wr N 29 fc
  bU : Bx wr (N + 1) 40 #[vc, vm, s2, s3, s4]
  bR : Bx wr (N + 2) 40 #[.slice none 0 0, .slice none 0 0, .slice none 0 0, .slice none 0 0, .slice none 0 0]
  oc : wr.ownsRow 0 3 1 vc cs.length (ints cs)
  om : wr.ownsRow 0 3 1 vm ms.length (ints ms)
  ne : ∀ k, vc.ownBlock = some k → vm.ownBlock ≠ some k
  bc : ∀ k, vc.ownBlock = some k → k ∈ D ∨ N + 3 ≤ k
  bm : ∀ k, vm.ownBlock = some k → k ∈ D ∨ N + 3 ≤ k
  ch : Chg ((N + 1) :: D) W wr
  sz : W.heap.size = N + 3
section
variable {D : List Nat} {W wr w1 : World} {fc : Array Value} {s2 s3 s4 vc vm : Value} {cs ms : List Int} {N : Nat}
theorem TkR.call (h : TkR D W fc s2 s3 s4 cs ms N wr vc vm) (hb : Below wr.heap.size wr w1) : TkR D W fc s2 s3 s4 cs ms N w1 vc vm :=
  ⟨h.bF.below hb, h.bU.below hb, h.bR.below hb, own_below h.oc hb, own_below h.om hb, h.ne, h.bc, h.bm, h.ch.trans (Chg.of_below hb _), h.sz⟩
theorem TkR.le {w : World} (h : TkR D W fc s2 s3 s4 cs ms w.heap.size wr vc vm) (hW : Chg D w W) : Le (look D w) wr.cell? :=
  ((look_new (fun k hk hl => by
    rcases List.mem_cons.1 hk with rfl | hk
    · omega
    · exact hk)).trans (hW.fewer (D' := (w.heap.size + 1) :: D) (fun k hk _ => by simp [hk])).le).trans h.ch.le'
theorem TkR.slice (h : TkR D W fc s2 s3 s4 cs ms N wr vc vm) : (∃ A k, vc = .slice A cs.length k) ∧ (∃ A k, vm = .slice A ms.length k) := by
  constructor
  · rcases h.oc.2 with ⟨rfl, h0⟩ | ⟨g, cap, cur, rfl, _⟩
    · exact ⟨none, 0, by rw [h0]⟩
    · exact ⟨_, _, rfl⟩
  · rcases h.om.2 with ⟨rfl, h0⟩ | ⟨g, cap, cur, rfl, _⟩
    · exact ⟨none, 0, by rw [h0]⟩
    · exact ⟨_, _, rfl⟩
theorem chg_grown {w w' : World} {v : Value} (hg : w.grownBy w' v.ownBlock) {D : List Nat} (hD : ∀ k, v.ownBlock = some k → k ∈ D) : Chg D w w' := Chg.grown hg hD
theorem TkR.app0 (h : TkR D W fc s2 s3 s4 cs ms N wr vc vm) {o : Obj} {w' : World} {g n cap : Nat} {x : Int} (hn : n = cs.length + 1) (ho : w'.ownsRow 0 3 1 (.slice (some ⟨g, 0, none⟩) n cap) n (ints cs ++ [.int .i64 x]))
    (hg : (wr.alloc o).grownBy w' vc.ownBlock) (hat : vc.ownBlock = some g ∨ g = wr.heap.size + 1) :
    TkR D W fc s2 s3 s4 (cs ++ [x]) ms N (w'.setCell ⟨N + 1, 0, none⟩ (.slice (some ⟨g, 0, none⟩) n cap)) (.slice (some ⟨g, 0, none⟩) n cap) vm := by
  subst hn
  have hN := h.bR.lt
  have nF := h.bF.not_row h.oc (by decide)
  have nU := h.bU.not_row h.oc (by decide)
  have nR := h.bR.not_row h.oc (by decide)
  have hgN : g ≠ N + 1 := by
    rcases hat with e | e
    · intro e2
      rw [e2] at e
      exact nU e.symm
    · omega
  have hs : W.heap.size ≤ wr.heap.size := h.ch.size
  have hmne : vm.ownBlock = none ∨ vm.ownBlock ≠ vc.ownBlock := by
    rcases hv : vm.ownBlock with _ | k
    · exact .inl rfl
    · exact .inr (fun e => h.ne k e.symm hv)
  have hU2 : some (N + 1) ≠ vm.ownBlock := h.bU.not_row h.om (by decide)
  have hgr : w'.grownBy (w'.setCell ⟨N + 1, 0, none⟩ (.slice (some ⟨g, 0, none⟩) (cs.length + 1) cap)) (some (N + 1)) :=
    ⟨rfl, rfl, rfl, by simp [World.setCell], fun k _ hk => Below.heap_setCell _ _ _ _ (fun e => hk (by rw [e]))⟩
  refine ⟨((h.bF.alloc o).grown hg nF).far (by simp) _, by simpa using ((h.bU.alloc o).grown hg nU).set 0 (.slice (some ⟨g, 0, none⟩) (cs.length + 1) cap), ((h.bR.alloc o).grown hg nR).far (by simp) _, ?_, ?_, ?_, ?_, h.bm, ?_, h.sz⟩
  · have := ho.kept hgr (.inr (by simp [Value.ownBlock]; exact hgN))
    simpa using this
  · exact ((h.om.alloc o).kept hg hmne).kept hgr (by rcases hv : vm.ownBlock with _ | k; exact .inl rfl; exact .inr (fun e => hU2 (by rw [hv, e])))
  · intro k hk
    simp only [Value.ownBlock, Option.some.injEq] at hk
    subst hk
    rcases hat with e | e
    · exact h.ne _ e
    · intro e2
      have := (h.om.lt _ e2).2
      omega
  · intro k hk
    simp only [Value.ownBlock, Option.some.injEq] at hk
    subst hk
    rcases hat with e | e
    · exact h.bc _ e
    · have := h.sz
      omega
  · refine ((h.ch.trans (Chg.alloc _ _ o)).grow hg (fun k hk => ?_)).put (.inl (by simp)) _
    have := h.sz
    rcases h.bc k hk with hm | hm
    · exact .inl (by simp [hm])
    · exact .inr (by omega)
theorem TkR.apart0 {w : World} (h : TkR D W fc s2 s3 s4 cs ms w.heap.size wr vc vm) {a : Addr} {u : Value} (ha : look D w a = some u) : vc.ownBlock ≠ some a.block := by
  intro e
  unfold look at ha
  split at ha
  · cases ha
  · rename_i hn
    have := World.block_lt_of_cell? w a ha
    rcases h.bc _ e with h1 | h1
    · exact hn h1
    · omega
theorem TkR.apart1 {w : World} (h : TkR D W fc s2 s3 s4 cs ms w.heap.size wr vc vm) {a : Addr} {u : Value} (ha : look D w a = some u) : vm.ownBlock ≠ some a.block := by
  intro e
  unfold look at ha
  split at ha
  · cases ha
  · rename_i hn
    have := World.block_lt_of_cell? w a ha
    rcases h.bm _ e with h1 | h1
    · exact hn h1
    · omega
theorem TkR.swap_ (h : TkR D W fc s2 s3 s4 cs ms N wr vc vm) : ∀ k, vm.ownBlock = some k → vc.ownBlock ≠ some k := fun k hk e => h.ne k e hk
theorem TkR.app1 (h : TkR D W fc s2 s3 s4 cs ms N wr vc vm) {o : Obj} {w' : World} {g n cap : Nat} {x : Int} (hn : n = ms.length + 1) (ho : w'.ownsRow 0 3 1 (.slice (some ⟨g, 0, none⟩) n cap) n (ints ms ++ [.int .i64 x]))
    (hg : (wr.alloc o).grownBy w' vm.ownBlock) (hat : vm.ownBlock = some g ∨ g = wr.heap.size + 1) :
    TkR D W fc s2 s3 s4 cs (ms ++ [x]) N (w'.setCell ⟨N + 1, 1, none⟩ (.slice (some ⟨g, 0, none⟩) n cap)) vc (.slice (some ⟨g, 0, none⟩) n cap) := by
  subst hn
  have hN := h.bR.lt
  have nF := h.bF.not_row h.om (by decide)
  have nU := h.bU.not_row h.om (by decide)
  have nR := h.bR.not_row h.om (by decide)
  have hgN : g ≠ N + 1 := by
    rcases hat with e | e
    · intro e2
      rw [e2] at e
      exact nU e.symm
    · omega
  have hs : W.heap.size ≤ wr.heap.size := h.ch.size
  have hmne : vc.ownBlock = none ∨ vc.ownBlock ≠ vm.ownBlock := by
    rcases hv : vc.ownBlock with _ | k
    · exact .inl rfl
    · exact .inr (fun e => h.ne k hv e.symm)
  have hU2 : some (N + 1) ≠ vc.ownBlock := h.bU.not_row h.oc (by decide)
  have hgr : w'.grownBy (w'.setCell ⟨N + 1, 1, none⟩ (.slice (some ⟨g, 0, none⟩) (ms.length + 1) cap)) (some (N + 1)) :=
    ⟨rfl, rfl, rfl, by simp [World.setCell], fun k _ hk => Below.heap_setCell _ _ _ _ (fun e => hk (by rw [e]))⟩
  refine ⟨((h.bF.alloc o).grown hg nF).far (by simp) _, by simpa using ((h.bU.alloc o).grown hg nU).set 1 (.slice (some ⟨g, 0, none⟩) (ms.length + 1) cap), ((h.bR.alloc o).grown hg nR).far (by simp) _, ?_, ?_, ?_, h.bc, ?_, ?_, h.sz⟩
  · exact ((h.oc.alloc o).kept hg hmne).kept hgr (by rcases hv : vc.ownBlock with _ | k; exact .inl rfl; exact .inr (fun e => hU2 (by rw [hv, e])))
  · have := ho.kept hgr (.inr (by simp [Value.ownBlock]; exact hgN))
    simpa using this
  · intro k hk e2
    simp only [Value.ownBlock, Option.some.injEq] at e2
    subst e2
    rcases hat with e | e
    · exact h.ne _ hk e
    · have := (h.oc.lt _ hk).2
      omega
  · intro k hk
    simp only [Value.ownBlock, Option.some.injEq] at hk
    subst hk
    rcases hat with e | e
    · exact h.bm _ e
    · have := h.sz
      omega
  · refine ((h.ch.trans (Chg.alloc _ _ o)).grow hg (fun k hk => ?_)).put (.inl (by simp)) _
    have := h.sz
    rcases h.bm k hk with hm | hm
    · exact .inl (by simp [hm])
    · exact .inr (by omega)
end

theorem own_put {w : World} {base e sz n b j : Nat} {v : Value} {xs : List Value} (h : w.ownsRow base e sz v n xs) (hb : some b ≠ v.ownBlock) (u : Value) : (w.setCell ⟨b, j, none⟩ u).ownsRow base e sz v n xs :=
  h.kept (row := some b) ⟨rfl, rfl, rfl, by simp [World.setCell], fun k _ hk => Below.heap_setCell _ _ _ _ (fun e => hk (by rw [e]))⟩ (by
    rcases hv : v.ownBlock with _ | k
    · exact .inl rfl
    · exact .inr (fun e => hb (by rw [hv, e])))
/-- What taken and takes hand back: rows of the call's own, or the caller's; all else of the uses as it came. -/
def TkPost (D : List Nat) (w : World) (s2 s3 s4 : Value) (cs ms : List Int) (e : Ending) (w' : World) : Prop :=
  ∃ vc vm, e = .returned (.agg #[vc, vm, s2, s3, s4]) ∧ w'.ownsRow 0 3 1 vc cs.length (ints cs) ∧ w'.ownsRow 0 3 1 vm ms.length (ints ms) ∧ (∀ k, vc.ownBlock = some k → vm.ownBlock ≠ some k) ∧
    (∀ k, vc.ownBlock = some k → k ∈ D ∨ w.heap.size ≤ k) ∧ (∀ k, vm.ownBlock = some k → k ∈ D ∨ w.heap.size ≤ k) ∧ Chg D w w'
theorem TkR.done {D : List Nat} {w W wr : World} {fc : Array Value} {s2 s3 s4 vc vm : Value} {cs ms : List Int} (h : TkR D W fc s2 s3 s4 cs ms w.heap.size wr vc vm) (hW : Chg D w W) (u0 u1 u2 u3 u4 : Value) :
    TkPost D w s2 s3 s4 cs ms (.returned (.agg #[vc, vm, s2, s3, s4])) (((((wr.setCell ⟨w.heap.size + 2, 0, none⟩ u0).setCell ⟨w.heap.size + 2, 1, none⟩ u1).setCell ⟨w.heap.size + 2, 2, none⟩ u2).setCell ⟨w.heap.size + 2, 3, none⟩ u3).setCell ⟨w.heap.size + 2, 4, none⟩ u4) := by
  have n1 := h.bR.not_row h.oc (by decide)
  have n2 := h.bR.not_row h.om (by decide)
  have hc : Chg D w wr := ((hW.fewer (D' := (w.heap.size + 1) :: D) (fun k hk _ => by simp [hk])).trans h.ch).fewer (fun k hk hl => by
    rcases List.mem_cons.1 hk with rfl | hk
    · omega
    · exact hk)
  refine ⟨vc, vm, rfl, own_put (own_put (own_put (own_put (own_put h.oc n1 _) n1 _) n1 _) n1 _) n1 _, own_put (own_put (own_put (own_put (own_put h.om n2 _) n2 _) n2 _) n2 _) n2 _, h.ne, fun k hk => ?_, fun k hk => ?_, ?_⟩
  · rcases h.bc k hk with h1 | h1
    · exact .inl h1
    · exact .inr (by omega)
  · rcases h.bm k hk with h1 | h1
    · exact .inl h1
    · exact .inr (by omega)
  · exact ((((hc.put (.inr (by simp)) _).put (.inr (by simp)) _).put (.inr (by simp)) _).put (.inr (by simp)) _).put (.inr (by simp)) _

set_option maxHeartbeats 1000000 in
set_option maxRecDepth 100000 in
theorem taken_any (D : List Nat) (v : Value) (F : Fn) (vc vm vl : Value) (A2 A3 A4 : Option Addr) (n2 k2 n3 k3 n4 k4 : Nat) (cs ms l : List Int) (w : World)
    (hF : RFn (look D w) v F) (hl : RInts (look D w) vl l) (hoc : w.ownsRow 0 3 1 vc cs.length (ints cs)) (hom : w.ownsRow 0 3 1 vm ms.length (ints ms))
    (hne : ∀ k, vc.ownBlock = some k → vm.ownBlock ≠ some k) (hDc : ∀ k, vc.ownBlock = some k → k ∈ D) (hDm : ∀ k, vm.ownBlock = some k → k ∈ D) (hD : ∀ k, k ∈ D → k < w.heap.size)
    (hn : cs.length + ms.length + l.length ≤ 1000000) :
    Calls Tryz.prog 48 #[v, .agg #[vc, vm, .slice A2 n2 k2, .slice A3 n3 k3, .slice A4 n4 k4], vl] w (TkPost D w (.slice A2 n2 k2) (.slice A3 n3 k3) (.slice A4 n4 k4) (tkU F cs ms l).copies (tkU F cs ms l).moves) := by
  obtain ⟨mo, pa, ar, vb, vr, vl', vk, vt, Ab, At, nb, cb, nt, ct, rfl, rfl, rfl, m1, m2, ⟨Ar, kr, rfl, hr1, hr2, hr3⟩, ⟨Al, kl, rfl, h1, h2, hL⟩, ⟨Ak, kk, rfl, hk1, hk2, hk3⟩⟩ := id hF
  obtain ⟨Ai, ki, rfl, hi1, hi2, hi3⟩ := id hl
  obtain ⟨xc, kc, rfl⟩ : ∃ A k, vc = .slice A cs.length k := by
    rcases hoc.2 with ⟨rfl, h0⟩ | ⟨g, cap, cur, rfl, _⟩
    · exact ⟨none, 0, by rw [h0]⟩
    · exact ⟨_, _, rfl⟩
  obtain ⟨xm, km, rfl⟩ : ∃ A k, vm = .slice A ms.length k := by
    rcases hom.2 with ⟨rfl, h0⟩ | ⟨g, cap, cur, rfl, _⟩
    · exact ⟨none, 0, by rw [h0]⟩
    · exact ⟨_, _, rfl⟩
  clear hr3 hk3 hL
  have HF := Lib.hid (fun c (hc : Le (look D w) c) => hF.mono hc)
  have HL := Lib.hid hi3
  have HOC := Lib.hid hoc
  have HOM := Lib.hid hom
  have HNE := Lib.hid hne
  have HDC := Lib.hid hDc
  have HDM := Lib.hid hDm
  have HD := Lib.hid hD
  have hll : l.length ≤ 1000000 := by omega
  clear hF hl hi3 hoc hom hne hDc hDm hD
  obtain ⟨i0, hi0, hz0, hz1, hz2⟩ := info_parts Tryz.info3
  go_enter Tryz.func48, Tryz.ntmps48
  go_wp2_with fail
  obtain ⟨W, hW⟩ : ∃ W, W = ((w.alloc (Obj.cells #[Value.string F.name, Value.int IntKind.i64 mo, Value.int IntKind.i64 pa, Value.slice Ab nb cb, Value.int IntKind.i64 ar, Value.int IntKind.i64 F.result.kind, Value.int IntKind.i64 F.result.id,
    Value.slice Ar F.result.args.length kr, Value.slice Al F.locals.length kl, Value.slice Ak F.blocks.length kk, Value.slice At nt ct] 29)).alloc (Obj.cells #[Value.slice xc cs.length kc, Value.slice xm ms.length km, Value.slice A2 n2 k2, Value.slice A3 n3 k3,
          Value.slice A4 n4 k4] 40)).alloc (Obj.cells #[Value.slice none 0 0, Value.slice none 0 0, Value.slice none 0 0, Value.slice none 0 0, Value.slice none 0 0] 40) := ⟨_, rfl⟩
  rw [← hW]
  have HR0 : Hid (TkR D W #[Value.string F.name, Value.int IntKind.i64 mo, Value.int IntKind.i64 pa, Value.slice Ab nb cb, Value.int IntKind.i64 ar, Value.int IntKind.i64 F.result.kind, Value.int IntKind.i64 F.result.id,
    Value.slice Ar F.result.args.length kr, Value.slice Al F.locals.length kl, Value.slice Ak F.blocks.length kk, Value.slice At nt ct] (.slice A2 n2 k2) (.slice A3 n3 k3) (.slice A4 n4 k4) cs ms w.heap.size W (.slice xc cs.length kc) (.slice xm ms.length km)) := by
    subst hW
    exact ⟨((Bx.new w _ _).alloc _).alloc _, by simpa using (Bx.new (w.alloc _) _ _).alloc _, by simpa using Bx.new ((w.alloc _).alloc _) _ _, ((HOC.out.alloc _).alloc _).alloc _, ((HOM.out.alloc _).alloc _).alloc _, HNE.out,
      fun k hk => .inl (HDC.out k hk), fun k hk => .inl (HDM.out k hk), Chg.refl _ _, by simp⟩
  have HWw : Hid (Chg D w W) := by
    subst hW
    exact ((Chg.alloc _ _ _).trans (Chg.alloc _ _ _)).trans (Chg.alloc _ _ _)
  clear hW
  go_loopw [7] (fun i wr => ∃ (k : Nat) (vc vm : Value), i = .int .i64 k ∧ k ≤ l.length ∧ Hid (TkR D W #[Value.string F.name, Value.int IntKind.i64 mo, Value.int IntKind.i64 pa, Value.slice Ab nb cb, Value.int IntKind.i64 ar, Value.int IntKind.i64 F.result.kind, Value.int IntKind.i64 F.result.id,
    Value.slice Ar F.result.args.length kr, Value.slice Al F.locals.length kl, Value.slice Ak F.blocks.length kk, Value.slice At nt ct] (.slice A2 n2 k2) (.slice A3 n3 k3) (.slice A4 n4 k4) (tkU F cs ms (l.take k)).copies (tkU F cs ms (l.take k)).moves w.heap.size wr vc vm))
    (fun i _ => l.length - (intOf i).toNat)
  case atStart => exact ⟨0, _, _, rfl, Nat.zero_le _, HR0⟩
  case round =>
    obtain ⟨k, vc, vm, rfl, hk, HR⟩ := hrel
    obtain ⟨⟨Ac, kc', rfl⟩, ⟨Am, km', rfl⟩⟩ := HR.out.slice
    have cF := HR.out.bF.cell
    have cU := HR.out.bU.cell
    have fU := HR.out.bU.frozen
    have hll2 := tkU_len F cs ms (l.take k)
    rw [List.length_take, Nat.min_eq_left hk] at hll2
    by_cases hlt : k < l.length
    · obtain ⟨ad, rfl, ca⟩ := HL.out.int_at k hlt
      obtain ⟨x, hx0⟩ : ∃ x, x = l.getD k 0 := ⟨_, rfl⟩
      rw [← hx0] at ca
      have HX := Lib.hid hx0
      clear hx0
      have HCA := Lib.hid ca
      clear ca
      have cl : wr.cell? (ad.add k) = some (.int .i64 x) := HR.out.le HWw.out _ _ HCA.out
      have hki : (k : Int) < (l.length : Int) := by omega
      go_wp2_with fail
      go_still_tail 5, (by kernel_rfl)
      change wpList _ _ _ _ _ wr.drew
      have HRd := Lib.hid (HR.out.call (Below.refl _ _).drew)
      have cl' : wr.drew.cell? (ad.add k) = some (.int .i64 x) := cl
      clear HR cF cU fU cl
      revert HRd cl'
      generalize wr.drew = wd
      intro HR cl
      go_wp2_with fail
      refine (of_any _ F _ _ (HF.out _ (HR.out.le HWw.out))).mono ?_
      rintro e w1 ⟨⟨i1, va1, rfl⟩, hb1⟩
      have HR1 := Lib.hid (HR.out.call hb1)
      have cl1 := hb1.cell (World.block_lt_of_cell? _ _ cl) |>.trans cl
      clear HR cl hb1
      go_wp2_with fail
      refine (copyable_any _ _ _ _).mono ?_
      rintro e w2 ⟨rfl, hb2⟩
      have HR := Lib.hid (HR1.out.call hb2)
      have cl := hb2.cell (World.block_lt_of_cell? _ _ cl1) |>.trans cl1
      clear HR1 cl1 hb2
      have cU := HR.out.bU.cell
      have fU := HR.out.bU.frozen
      by_cases hcp : copyable (kindOf F x) = true
      · rw [hcp]
        go_wp2_with fail
        have ak : (Value.slice Ac (tkU F cs ms (l.take k)).copies.length kc').ownBlock ≠ some (ad.add k).block := HR.out.apart0 HCA.out
        have aU : (Value.slice Ac (tkU F cs ms (l.take k)).copies.length kc').ownBlock ≠ some (w.heap.size + 1) := fun e => HR.out.bU.not_row HR.out.oc (by decide) e.symm
        have cU0 := HR.out.bU.cell 0
        have fU0 := HR.out.bU.frozen 0
        have lU := HR.out.bU.lt
        have lk := World.block_lt_of_cell? w2 _ cl
        have hown := HR.out.oc
        go_region_law
          ((refine step_append_lies _ (by rfl) _ _ _ (by rfl) 0 3 i0 _ 1 8 Tryz.underlying27 hi0 hz0 hz1 hz2 rfl (by omega) _ _ _ (by rfl) ((hown.alloc _).drew)
              ⟨w2.heap.size, 0, none⟩ 1 1 [.int .i64 x] (by rfl) (by rfl) (World.news_of_block (cs := #[.int .i64 x]) (t := 3) (fr := (0, 0)) (heap_alloc_new w2 _)) (by simp [Value.oneCell'])
              (by omega) (by unfold maxLen; omega) (by omega) (by simp) (w2.heap.size + 1) (by simp) ?_; intro gg cap w1 hown1 hgrow hat hlt; have bu1 := ((HR.out.bU.alloc _).drew).grown hgrow (fun e => aU e.symm); have cu1 := bu1.cell 0; have fu1 := bu1.frozen 0; have BU1 := Lib.hid bu1; clear bu1; have cl1 := hgrow.cell (a := ad.add k) ((((Below.refl _ w2).alloc (Nat.le_refl _) _).drew.cell lk).trans cl) (fun e => ak e.symm)))
        all_goals
          have HR2 := Lib.hid (HR.out.app0 rfl hown1 (undrew hgrow) hat)
          clear HR cU fU cU0 fU0 lU lk hown hown1 hgrow hat hlt cu1 fu1 BU1 cl1 cl ak aU
          go_wp2
          go_roundw
          case rel => exact ⟨k + 1, _, _, by go_num, by omega, by rw [take_snoc l k 0 hlt, ← HX.out, tkU_snoc]; unfold take1; rw [if_pos hcp]; exact HR2⟩
          case measure => simp [intOf]; omega
      · have hcp' : copyable (kindOf F x) = false := by simpa using hcp
        rw [hcp']
        go_wp2_with fail
        have ak : (Value.slice Am (tkU F cs ms (l.take k)).moves.length km').ownBlock ≠ some (ad.add k).block := HR.out.apart1 HCA.out
        have aU : (Value.slice Am (tkU F cs ms (l.take k)).moves.length km').ownBlock ≠ some (w.heap.size + 1) := fun e => HR.out.bU.not_row HR.out.om (by decide) e.symm
        have cU0 := HR.out.bU.cell 1
        have fU0 := HR.out.bU.frozen 1
        have lU := HR.out.bU.lt
        have lk := World.block_lt_of_cell? w2 _ cl
        have hown := HR.out.om
        go_region_law
          ((refine step_append_lies _ (by rfl) _ _ _ (by rfl) 0 3 i0 _ 1 8 Tryz.underlying27 hi0 hz0 hz1 hz2 rfl (by omega) _ _ _ (by rfl) ((hown.alloc _).drew)
              ⟨w2.heap.size, 0, none⟩ 1 1 [.int .i64 x] (by rfl) (by rfl) (World.news_of_block (cs := #[.int .i64 x]) (t := 3) (fr := (0, 0)) (heap_alloc_new w2 _)) (by simp [Value.oneCell'])
              (by omega) (by unfold maxLen; omega) (by omega) (by simp) (w2.heap.size + 1) (by simp) ?_; intro gg cap w1 hown1 hgrow hat hlt; have bu1 := ((HR.out.bU.alloc _).drew).grown hgrow (fun e => aU e.symm); have cu1 := bu1.cell 1; have fu1 := bu1.frozen 1; have BU1 := Lib.hid bu1; clear bu1; have cl1 := hgrow.cell (a := ad.add k) ((((Below.refl _ w2).alloc (Nat.le_refl _) _).drew.cell lk).trans cl) (fun e => ak e.symm)))
        all_goals
          have HR2 := Lib.hid (HR.out.app1 rfl hown1 (undrew hgrow) hat)
          clear HR cU fU cU0 fU0 lU lk hown hown1 hgrow hat hlt cu1 fu1 BU1 cl1 cl ak aU
          go_wp2
          go_roundw
          case rel => exact ⟨k + 1, _, _, by go_num, by omega, by rw [take_snoc l k 0 hlt, ← HX.out, tkU_snoc]; unfold take1; rw [if_neg hcp]; exact HR2⟩
          case measure => simp [intOf]; omega
    · obtain rfl : k = l.length := by omega
      have cR := HR.out.bR.cell
      have fR := HR.out.bR.frozen
      rw [List.take_length] at HR
      simp only [List.take_length] at cU hll2
      go_wp2
      refine bodyPost_ret (v := .agg #[.slice Ac (tkU F cs ms l).copies.length kc', .slice Am (tkU F cs ms l).moves.length km', .slice A2 n2 k2, .slice A3 n3 k3, .slice A4 n4 k4]) (by simp [results, Tryz.results48, go_sem, cU, cR, fR]) rfl ?_
      exact HR.out.done HWw.out _ _ _ _ _
end Go.Proofs.YtdkjkgokllmkmaaGreatDoor.Lv
