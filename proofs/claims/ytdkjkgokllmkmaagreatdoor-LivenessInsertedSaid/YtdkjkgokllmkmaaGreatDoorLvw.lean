/- Walks: slices.Backward over instructions. -/
import Derived.Test.YtdkjkgokllmkmaaGreatDoorLvv
import Derived.Test.YtdkjkgokllmkmaaGreatDoorLvu
import Derived.RangeFuncCalls
import Derived.WalkKit
import Derived.OwnWalkIn
import Derived.TacticsInMore
import Derived.LoopNIn
import Derived.LoopIn
namespace Go.Proofs.YtdkjkgokllmkmaaGreatDoor.Lv
open Go.RowKit
attribute [local go_sem] Oper.semAt_some
set_option linter.unusedVariables false
set_option linter.unusedSimpArgs false
/-- What is handed over: a number and a value. -/
def enc2 (x : Nat × Value) : Array Value := #[.int .i64 x.1, x.2]
/-- Of the blocks of cells those of D alone may have turned. -/
structure CK (D : List Nat) (W W' : World) : Prop where
  os : W'.os = W.os
  tape : W'.tape = W.tape
  output : W'.output = W.output
  size : W.heap.size ≤ W'.heap.size
  block : ∀ k o, k ∉ D → W.heap[k]? = some o → o.isCells = true → W'.heap[k]? = some o
theorem CK.refl (D : List Nat) (W : World) : CK D W W := ⟨rfl, rfl, rfl, Nat.le_refl _, fun _ _ _ h _ => h⟩
theorem CK.trans {D : List Nat} {A B C : World} (h : CK D A B) (k : CK D B C) : CK D A C :=
  ⟨k.os.trans h.os, k.tape.trans h.tape, k.output.trans h.output, Nat.le_trans h.size k.size, fun i o hd hi ho => k.block i o hd (h.block i o hd hi ho) ho⟩
theorem CK.of_below {D : List Nat} {W W' : World} (h : Below W.heap.size W W') : CK D W W' :=
  ⟨h.os, h.tape, h.output, h.size, fun k o _ hk _ => (h.block k (Array.getElem?_eq_some_iff.1 hk).1).trans hk⟩
theorem CK.of_chg {D : List Nat} {W W' : World} (h : Chg D W W') : CK D W W' :=
  ⟨h.os, h.tape, h.output, h.size, fun k o hd hk _ => (h.block k (Array.getElem?_eq_some_iff.1 hk).1 hd).trans hk⟩
theorem CK.putObj {D : List Nat} (W : World) (l : Nat) (o o' : Obj) (h : W.heap[l]? = some o) (ho : o.isCells = false) : CK D W (W.putObj l o') :=
  ⟨rfl, rfl, rfl, by simp [World.putObj], fun k u _ hk hu => by
    have hkl : k ≠ l := by
      rintro rfl
      rw [h] at hk
      cases hk
      rw [ho] at hu
      cases hu
    exact (World.putObj_heap_other hkl).trans hk⟩
theorem cell_block {W : World} {a : Addr} {v : Value} (h : W.cell? a = some v) : ∃ o, W.heap[a.block]? = some o ∧ o.isCells = true := by
  unfold World.cell? at h
  split at h
  · exact ⟨_, by assumption, rfl⟩
  · cases h
theorem CK.cell {D : List Nat} {W W' : World} (h : CK D W W') {a : Addr} {v : Value} (hd : a.block ∉ D) (e : W.cell? a = some v) : W'.cell? a = some v := by
  obtain ⟨o, ho, hc⟩ := cell_block e
  rw [← e]
  unfold World.cell?
  rw [h.block _ _ hd ho hc, ho]
theorem CK.le {D : List Nat} {W W' : World} (h : CK D W W') : Le (look D W) (look D W') := by
  intro a v e
  have hd : a.block ∉ D := by
    intro hm
    unfold look at e
    rw [if_pos hm] at e
    cases e
  exact cell_look hd (h.cell hd (look_le _ _ _ _ e))
theorem CK.bx {D : List Nat} {W W' : World} (h : CK D W W') {b t : Nat} {cs : Array Value} (hb : Bx W b t cs) (hd : b ∉ D) : Bx W' b t cs := h.block b _ hd hb rfl
theorem CK.grownBy {D : List Nat} {A B : World} {row : Option Nat} (hg : A.grownBy B row) (hr : ∀ r, row = some r → ∃ o : Obj, A.heap[r]? = some o ∧ o.isCells = false) : CK D A B :=
  ⟨hg.os, hg.tape, hg.output, hg.size, fun k o _ hk ho => (hg.block k (Array.getElem?_eq_some_iff.1 hk).1 (fun e => by
    obtain ⟨o', h1, h2⟩ := hr k e.symm
    rw [hk] at h1
    cases h1
    rw [ho] at h2
    cases h2)).trans hk⟩
theorem CK.le0 {W W' : World} (h : CK [] W W') : Le W.cell? W'.cell? := fun _ _ e => h.cell (by simp) e
set_option maxHeartbeats 2000000 in
set_option maxRecDepth 100000 in
theorem back_seq (n : Nat) (hn : 1 ≤ n) (D : List Nat) (bx : Nat) (A : Option Addr) (cap : Nat) (code : List Ins) (w : World) (hb : Bx w bx 62 #[.slice A code.length cap]) (hbx : bx ∉ D)
    (hc : RRow KIns 7 (look D w) A code) (hl : code.length ≤ 1000000) :
    SeqR Fence.wide n Tryz.prog 62 #[.pointer (some ⟨bx, 0, none⟩)] enc2 (fun pre x W => x.1 + pre.length + 1 = code.length ∧ RIns W.cell? x.2 (code.getD x.1 default)) (CK D) (fun xs => xs.length = code.length) w := by
  intro l J W hW hJ hY h0
  have hbW := (CK.of_below hW).bx (D := D) hb hbx
  have hcb := hbW.cell 0
  have hrd : ∀ W', CK D W W' → RRow KIns 7 W'.cell? A code := fun W' h => (hc.mono monoIns (((CK.of_below hW).trans h).le)).mono monoIns (look_le _ _)
  have HRD := Lib.hid hrd
  have HY := Lib.hid hY
  have HWB := Lib.hid hbW
  clear hrd hY hb hc hbW
  refine callsIn_of_wp Tryz.func62 rfl trivial ?_ rfl
  simp only [Tryz.ntmps62, List.size_toArray, List.length_cons, List.length_nil, Nat.reduceAdd, Nat.reduceSub, Array.replicate_succ, Array.replicate_zero, List.push_toArray, List.append_toArray, List.nil_append, List.cons_append]
  gi_wp2
  gi_loopw [3] (fun i wr => ∃ (k : Nat) (pre : List (Nat × Value)), i = .int .i64 ((k : Int) - 1) ∧ k + pre.length = code.length ∧ Hid (J pre wr) ∧ Hid (CK D W wr)) (fun i _ => ((intOf i) + 1).toNat)
  case atStart => exact ⟨code.length, [], by trivial, by simp, h0, CK.refl _ _⟩
  case round =>
    clear hcb
    obtain ⟨k, pre, rfl, hk, HJ, HB⟩ := hrel
    have hc := (HB.out.bx HWB.out hbx).cell 0
    rcases k with _ | k
    · gi_wp2
      go_end0
      exact ⟨⟨_, rfl⟩, pre, by simpa using hk, HJ.out⟩
    · have hkl : k < code.length := by omega
      obtain ⟨ad, va, vy, rfl, d0, d1, d2, d3, d4, d5, d6, ⟨Aa, ka, rfl, ha1, ha2, ha3⟩, ⟨Ay, ky, rfl, hy1, hy2, hy3⟩⟩ := (HRD.out _ HB.out).ins_at k hkl
      obtain ⟨x, hx⟩ : ∃ x, x = code.getD k default := ⟨_, rfl⟩
      rw [← hx] at d0 d1 d2 d3 d4 d5 d6 ha1 ha3 hy1 hy3
      obtain ⟨fn, tmps, assign, body, hy, hR⟩ := HY.out pre (k, .agg #[.int .i64 x.op, .int .i64 x.dst, .int .i64 x.a, .int .i64 x.b, .int .i64 x.n, .slice Aa x.args.length ka, .slice Ay x.types.length ky]) wr HJ.out
        ⟨by simp; omega, by rw [← hx]; exact ⟨_, _, rfl, ⟨Aa, ka, rfl, ha1, ha2, ha3⟩, ⟨Ay, ky, rfl, hy1, hy2, hy3⟩⟩⟩
      simp only [enc2] at hy
      have HR := Lib.hid hR
      clear ha3 hy3 hR hx
      have hk0 : ((k + 1 : Nat) : Int) - 1 = (k : Int) := by omega
      rw [hk0]
      have hki : (k : Int) < (code.length : Int) := by omega
      gi_wp2
      refine HR.out.mono ?_
      rintro e W2 ⟨rfl, hJ2, hK, -⟩
      have HJ2 := Lib.hid hJ2
      have HB2 := Lib.hid (HB.out.trans hK)
      clear hJ2 hK HR hy d0 d1 d2 d3 d4 d5 d6 hc
      gi_wp2
      go_roundw
      case rel => exact ⟨k, _, by go_num, by simp; omega, HJ2, HB2⟩
      case measure => simp [intOf]
end Go.Proofs.YtdkjkgokllmkmaaGreatDoor.Lv
