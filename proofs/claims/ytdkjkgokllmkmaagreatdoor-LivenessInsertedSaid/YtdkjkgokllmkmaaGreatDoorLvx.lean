/- Walks: backwards of package liveness, an iterator. -/
import Derived.Test.YtdkjkgokllmkmaaGreatDoorLvw
import Derived.Test.YtdkjkgokllmkmaaGreatDoorLvw0
import Derived.Stop.RegionWithIn
namespace Go.Proofs.YtdkjkgokllmkmaaGreatDoor.Lv
open Go.RowKit
attribute [local go_sem] Oper.semAt_some
set_option linter.unusedVariables false
set_option linter.unusedSimpArgs false
theorem backward_any (A : Option Addr) (l k : Nat) (w : World) :
    Calls Tryz.prog 53 #[.slice A l k] w fun e w' => e = .returned (.func (.func 62) #[] #[.pointer (some ⟨w.heap.size, 0, none⟩)]) ∧ w' = w.alloc (.cells #[.slice A l k] 62) := by
  go_enter Tryz.func53, Tryz.ntmps53
  go_wp2
  go_ret
  exact ⟨rfl, rfl⟩
theorem backwards_any (cs : Array Value) (c0 c1 c2 c3 : Value) (w : World) (v : Value) (hv : v = .agg cs) (F : Fn) (hF : RFn w.cell? v F) (B : Blk) (Ac Ag : Option Addr) (kc kg : Nat) :
    Calls Tryz.prog 44 #[v, .agg #[.slice Ac B.code.length kc, .int .i64 B.fin.kind, .int .i64 B.fin.a, .slice Ag B.fin.targets.length kg]] w fun e w' =>
      e = .returned (.func (.func 51) #[] #[.pointer (some ⟨w.heap.size + 1, 0, none⟩), .pointer (some ⟨w.heap.size, 0, none⟩)]) ∧
      w' = (w.alloc (.cells cs 29)).alloc (.cells #[.slice Ac B.code.length kc, .int .i64 B.fin.kind, .int .i64 B.fin.a, .slice Ag B.fin.targets.length kg] 66) := by
  obtain ⟨mo, pa, ar, vb, vr, vl', vk, vt, Ab, At, nb, cb, nt, ct, rfl, rfl, rfl, m1, m2, ⟨Ar, kr, rfl, hr1, hr2, hr3⟩, ⟨Al, kl, rfl, h1, h2, hL⟩, ⟨Ak, kk, rfl, hk1, hk2, hk3⟩⟩ := hF
  simp only [Value.agg.injEq] at hv
  subst hv
  clear hr3 hL hk3
  go_enter Tryz.func44, Tryz.ntmps44
  go_wp2
  go_ret
  exact ⟨rfl, rfl⟩
theorem abides_below {α : Type} {B : Nat} {J : α → World → Prop} (hJ : OwnFrom B J) {s : α} {A A' : World} (h : J s A) (hb : Below A.heap.size A A') : J s A' :=
  hJ s A A' none h ⟨hb.os, hb.tape, hb.output, hb.size, fun k hk _ => hb.block k hk⟩ (fun r e => by cases e)
theorem roundW {n n' l : Nat} {P : Program} {f : FuncId} {tmps : Array Value} {assign body : Code} {w : World} {R : Ending → World → Prop} {l' : Nat}
    (h : RoundIn Fence.wide n P l f tmps assign body w R) : RoundIn (Fence.wide.inRound l') n' P l f tmps assign body w R :=
  ⟨h.1, fun c cs _ => h.2 c cs (room_wide _)⟩
/-- The function's own cells. -/
def FCells (v : Value) : Array Value := match v with | .agg cs => cs | _ => #[]
set_option maxHeartbeats 2000000 in
set_option maxRecDepth 100000 in
theorem bw_seq (n : Nat) (hn : 4 ≤ n) (D : List Nat) (b66 b29 : Nat) (v : Value) (F : Fn) (B : Blk) (Ac Ag : Option Addr) (kc kg : Nat) (w : World) (hF : RFn (look D w) v F) (hb29 : Bx w b29 29 (FCells v)) (hd29 : b29 ∉ D)
    (hb66 : Bx w b66 66 #[.slice Ac B.code.length kc, .int .i64 B.fin.kind, .int .i64 B.fin.a, .slice Ag B.fin.targets.length kg]) (hd66 : b66 ∉ D) (hc : RRow KIns 7 (look D w) Ac B.code)
    (hc1 : B.code.length ≤ kc) (hc2 : kc ≤ maxLen) (hg : RInts (look D w) (.slice Ag B.fin.targets.length kg) B.fin.targets) (hl : B.code.length ≤ 1000000) (hargs : ∀ x, x ∈ B.code → x.args.length ≤ 20) (hD : ∀ k, k ∈ D → k < w.heap.size) :
    SeqR Fence.wide n Tryz.prog 51 #[.pointer (some ⟨b66, 0, none⟩), .pointer (some ⟨b29, 0, none⟩)] enc2 (fun pre x W => x.1 + pre.length = B.code.length ∧ RUs W.cell? x.2 (atB F B x.1)) (CK D) (fun xs => xs.length = B.code.length + 1) w := by
  intro l J W hW hJ hY h0
  have hCW : CK D w W := CK.of_below hW
  have B29 := hCW.bx hb29 hd29
  have B66 := hCW.bx hb66 hd66
  have HF0 : ∀ W', CK D W W' → RFn (look D W') v F := fun W' h => hF.mono (hCW.trans h).le
  have HG0 : ∀ W', CK D W W' → RInts (look D W') (.slice Ag B.fin.targets.length kg) B.fin.targets := fun W' h => hg.mono monoInt (hCW.trans h).le
  have HC0 : ∀ W', CK D W W' → RRow KIns 7 (look D W') Ac B.code := fun W' h => hc.mono monoIns (hCW.trans h).le
  have hDW : ∀ k, k ∈ D → k < W.heap.size := fun k hk => Nat.lt_of_lt_of_le (hD k hk) hW.size
  obtain ⟨mo, pa, ar, vb, vr, vl', vk, vt, Ab, At, nb, cb, nt, ct, rfl, rfl, rfl, m1, m2, ⟨Ar, kr, rfl, hr1, hr2, hr3⟩, ⟨Al, kl, rfl, h1, h2, hL⟩, ⟨Ak, kk, rfl, hk1, hk2, hk3⟩⟩ := id hF
  simp only [FCells] at B29
  have HF := Lib.hid HF0
  have HG := Lib.hid HG0
  have HC := Lib.hid HC0
  have HY := Lib.hid hY
  have HJA := Lib.hid hJ
  have HJ := Lib.hid h0
  have HD := Lib.hid hDW
  have HAR := Lib.hid hargs
  clear HF0 HG0 HC0 hY hJ h0 hF hb29 hb66 hc hg hr3 hL hk3 hW hCW hD hDW hargs
  have cF := B29.cell
  have cB := B66.cell
  have lF := B29.lt
  have lB := B66.lt
  refine callsIn_of_wp_marks Tryz.func51 rfl trivial ?_ rfl
  simp only [Tryz.ntmps51, List.size_toArray, List.length_cons, List.length_nil, Nat.reduceAdd, Nat.reduceSub, Array.replicate_succ, Array.replicate_zero, List.push_toArray, List.append_toArray, List.nil_append, List.cons_append]
  have hFW : ∀ W', Below W.heap.size W W' → RFn W'.cell? (.agg #[.string F.name, .int .i64 mo, .int .i64 pa, .slice Ab nb cb, .int .i64 ar, .int .i64 F.result.kind, .int .i64 F.result.id, .slice Ar F.result.args.length kr, .slice Al F.locals.length kl, .slice Ak F.blocks.length kk, .slice At nt ct]) F :=
    fun W' h => ((HF.out W (CK.refl _ _)).mono (look_le _ _)).mono (Bl.le h)
  have hTW : ∀ W', Below W.heap.size W W' → RTerm W'.cell? (.agg #[.int .i64 B.fin.kind, .int .i64 B.fin.a, .slice Ag B.fin.targets.length kg]) B.fin :=
    fun W' h => ⟨_, rfl, ((HG.out W (CK.refl _ _)).mono monoInt (look_le _ _)).mono monoInt (Bl.le h)⟩
  have hJW : ∀ W', Below W.heap.size W W' → J [] W' := fun W' h => abides_below HJA.out HJ.out h
  have HFW := Lib.hid hFW
  have HTW := Lib.hid hTW
  have HJW := Lib.hid hJW
  have HB66 := Lib.hid B66
  have HB29 := Lib.hid B29
  have hat : Hid (atB F B B.code.length = endsOf F B.fin) := by
    show atB F B B.code.length = _
    unfold atB
    rw [if_neg (Nat.lt_irrefl _)]
  clear hFW hTW hJW B66 B29
  have hn1 : 1 ≤ n := by omega
  gi_wp2_with fail
  refine wpIn_mono (Q := Exit.then (fun a W' => ∃ u6 u7 u8 u9 u10 u11 u12 u13 : Value, a = Act.mk #[.func (.yield l) #[] #[], .pointer (some ⟨b66, 0, none⟩), .pointer (some ⟨b29, 0, none⟩), .pointer (some ⟨W.heap.size, 0, none⟩), undef, undef, u6, u7, u8, u9, u10, u11, u12, u13, .bool true, .bool false,
    undef, undef, undef, undef, undef, undef, undef, undef, undef, undef, undef, undef] [] ∧ (∃ vu, J [(B.code.length, vu)] W') ∧ ∃ W1, Below W.heap.size W W1 ∧ Bx W1 W.heap.size 95 #[.func (.yield l) #[] #[]] ∧ CK D W1 W') (fun _ _ _ => False)) ?reg ?rest
  case reg =>
    refine wpIn_region_any (by kernel_rfl) ?_
    refine AnyS.any (S := fun w' => (∀ j, w'.cell? ⟨b29, j, none⟩ = (#[.string F.name, .int .i64 mo, .int .i64 pa, .slice Ab nb cb, .int .i64 ar, .int .i64 F.result.kind, .int .i64 F.result.id, .slice Ar F.result.args.length kr, .slice Al F.locals.length kl, .slice Ak F.blocks.length kk, .slice At nt ct] : Array Value)[j]?) ∧
      (∀ j, w'.cell? ⟨b66, j, none⟩ = (#[.slice Ac B.code.length kc, .int .i64 B.fin.kind, .int .i64 B.fin.a, .slice Ag B.fin.targets.length kg] : Array Value)[j]?) ∧ w'.cell? ⟨W.heap.size, 0, none⟩ = some (.func (.yield l) #[] #[])) _ _ _ _ ?_
    change AnyS _ _ _ _ _ _ _ _ _ _ (World.drew _)
    have hSd : (fun w' : World => (∀ j, w'.cell? ⟨b29, j, none⟩ = (#[.string F.name, .int .i64 mo, .int .i64 pa, .slice Ab nb cb, .int .i64 ar, .int .i64 F.result.kind, .int .i64 F.result.id, .slice Ar F.result.args.length kr, .slice Al F.locals.length kl, .slice Ak F.blocks.length kk, .slice At nt ct] : Array Value)[j]?) ∧
      (∀ j, w'.cell? ⟨b66, j, none⟩ = (#[.slice Ac B.code.length kc, .int .i64 B.fin.kind, .int .i64 B.fin.a, .slice Ag B.fin.targets.length kg] : Array Value)[j]?) ∧ w'.cell? ⟨W.heap.size, 0, none⟩ = some (.func (.yield l) #[] #[])) (W.alloc (.cells #[.func (.yield l) #[] #[]] 95)).drew :=
      ⟨(HB29.out.alloc _).drew.cell, (HB66.out.alloc _).drew.cell, (Bx.at0 W 95 #[.func (.yield l) #[] #[]] rfl).drew.cell 0⟩
    (refine AnyS.take (i := 0) (v := ?_) (by kernel_rfl) rfl (by kernel_rfl) (by kernel_rfl) (by kernel_rfl) (fun _ _ _ h => h) (by assumption) ⟨⟨by rfl, ?_⟩, fun _ => rfl⟩ ?_; rotate_left; (rintro w' ⟨hs1, hs2, hs3⟩; go_simp; rfl))
    (refine AnyS.take (i := 1) (v := ?_) (by kernel_rfl) rfl (by kernel_rfl) (by kernel_rfl) (by kernel_rfl) (fun _ _ _ h => h) (by assumption) ⟨⟨by rfl, ?_⟩, fun _ => rfl⟩ ?_; rotate_left; (rintro w' ⟨hs1, hs2, hs3⟩; go_simp; rfl))
    (refine AnyS.take (i := 2) (v := ?_) (by kernel_rfl) rfl (by kernel_rfl) (by kernel_rfl) (by kernel_rfl) (fun _ _ _ h => h) (by assumption) ⟨⟨by rfl, ?_⟩, fun _ => rfl⟩ ?_; rotate_left; (rintro w' ⟨hs1, hs2, hs3⟩; go_simp; rfl))
    (refine AnyS.take (i := 3) (v := ?_) (by kernel_rfl) rfl (by kernel_rfl) (by kernel_rfl) (by kernel_rfl) (fun _ _ _ h => h) (by assumption) ⟨⟨by rfl, ?_⟩, fun _ => rfl⟩ ?_; rotate_left; (rintro w' ⟨hs1, hs2, hs3⟩; go_simp; rfl))
    (refine AnyS.take (i := 4) (v := ?_) (by kernel_rfl) rfl (by kernel_rfl) (by kernel_rfl) (by kernel_rfl) (fun _ _ _ h => h) (by assumption) ⟨⟨by rfl, ?_⟩, fun _ => rfl⟩ ?_; rotate_left; (rintro w' ⟨hs1, hs2, hs3⟩; go_simp; rfl))
    (refine AnyS.take (i := 5) (v := ?_) (by kernel_rfl) rfl (by kernel_rfl) (by kernel_rfl) (by kernel_rfl) (fun _ _ _ h => h) (by assumption) ⟨⟨by rfl, ?_⟩, fun _ => rfl⟩ ?_; rotate_left; (rintro w' ⟨hs1, hs2, hs3⟩; go_simp; rfl))
    (refine AnyS.take (i := 6) (v := ?_) (by kernel_rfl) rfl (by kernel_rfl) (by kernel_rfl) (by kernel_rfl) (fun _ _ _ h => h) (by assumption) ⟨⟨by rfl, ?_⟩, fun _ => rfl⟩ ?_; rotate_left; (rintro w' ⟨hs1, hs2, hs3⟩; go_simp; rfl))
    refine AnyS.one (i := 7) (by kernel_rfl) ?_
    refine wpOpIn_step rfl (fun K hK => ?_)
    go_simp
    refine ⟨trivial, ?_⟩
    refine (callsIn_wide.2 (gends_any _ _ F B.fin _ (HFW.out _ (by repeat (first | exact Below.refl _ _ | apply Bl.drew | apply Bl.alloc))) (HTW.out _ (by repeat (first | exact Below.refl _ _ | apply Bl.drew | apply Bl.alloc))))).mono ?_
    rintro e w1 ⟨⟨vu, rfl, hu⟩, hb1⟩
    have hx1 := Bx.below (w' := w1) (b := W.heap.size) (t := 95) (cs := #[.func (.yield l) #[] #[]]) ((Bx.at0 _ _ _ rfl).drew) hb1
    have hB1 := Bl.call (w := W) (Bl.drew (Bl.alloc (Below.refl _ _) _)) hb1
    obtain ⟨fn, tmps, assign, body, hy, hR⟩ := HY.out [] (B.code.length, vu) w1 (HJW.out _ hB1) ⟨by simp, by rw [hat.out]; exact hu⟩
    simp only [enc2] at hy
    have hS1 : (fun w' : World => (∀ j, w'.cell? ⟨b29, j, none⟩ = (#[.string F.name, .int .i64 mo, .int .i64 pa, .slice Ab nb cb, .int .i64 ar, .int .i64 F.result.kind, .int .i64 F.result.id, .slice Ar F.result.args.length kr, .slice Al F.locals.length kl, .slice Ak F.blocks.length kk, .slice At nt ct] : Array Value)[j]?) ∧
      (∀ j, w'.cell? ⟨b66, j, none⟩ = (#[.slice Ac B.code.length kc, .int .i64 B.fin.kind, .int .i64 B.fin.a, .slice Ag B.fin.targets.length kg] : Array Value)[j]?) ∧ w'.cell? ⟨W.heap.size, 0, none⟩ = some (.func (.yield l) #[] #[])) w1 := ⟨(HB29.out.below hB1).cell, (HB66.out.below hB1).cell, hx1.cell 0⟩
    have HR := Lib.hid hR
    have HX1 := Lib.hid hx1
    have HB1 := Lib.hid hB1
    obtain ⟨A0, k0, A1, k1, A2, k2, A3, k3, A4, k4, rfl⟩ := hu.open
    clear hu hb1 hx1 hB1 hR
    refine hK _ _ ⟨hS1, ?_⟩
    clear hK K
    refine AnyS.one (i := 8) (by kernel_rfl) ?_
    refine wpOpIn_step rfl (fun K hK => ?_)
    go_simp
    refine HR.out.mono ?_
    rintro e W2 ⟨rfl, hJ2, hK2, -⟩
    have hS2 : (fun w' : World => (∀ j, w'.cell? ⟨b29, j, none⟩ = (#[.string F.name, .int .i64 mo, .int .i64 pa, .slice Ab nb cb, .int .i64 ar, .int .i64 F.result.kind, .int .i64 F.result.id, .slice Ar F.result.args.length kr, .slice Al F.locals.length kl, .slice Ak F.blocks.length kk, .slice At nt ct] : Array Value)[j]?) ∧
      (∀ j, w'.cell? ⟨b66, j, none⟩ = (#[.slice Ac B.code.length kc, .int .i64 B.fin.kind, .int .i64 B.fin.a, .slice Ag B.fin.targets.length kg] : Array Value)[j]?) ∧ w'.cell? ⟨W.heap.size, 0, none⟩ = some (.func (.yield l) #[] #[])) W2 := ⟨(hK2.bx (HB29.out.below HB1.out) hd29).cell, (hK2.bx (HB66.out.below HB1.out) hd66).cell, (hK2.bx HX1.out (fun hm => Nat.lt_irrefl _ (HD.out _ hm))).cell 0⟩
    have HJ2 := Lib.hid hJ2
    have HK2 := Lib.hid hK2
    clear hJ2 hK2 hy
    refine hK _ _ ⟨hS2, ?_⟩
    clear hK K
    (refine AnyS.take (i := 9) (v := ?_) (by kernel_rfl) rfl (by kernel_rfl) (by kernel_rfl) (by kernel_rfl) (fun _ _ _ h => h) (by assumption) ⟨⟨by rfl, ?_⟩, fun _ => rfl⟩ ?_; rotate_left; (rintro w' ⟨hs1, hs2, hs3⟩; go_simp; rfl))
    refine AnyS.done (by kernel_rfl) ?_ _
    exact ⟨_, _, _, _, _, _, _, _, rfl, ⟨_, HJ2.out⟩, _, HB1.out, HX1.out, HK2.out⟩
  case rest =>
    intro e a W2 h
    cases e with
    | ret => exact h.elim
    | exit id => exact h.elim
    | goto t => exact h.elim
    | panic c => exact h.elim
    | outgrown => exact h.elim
    | normal =>
      obtain ⟨u6, u7, u8, u9, u10, u11, u12, u13, rfl, ⟨vu, hJ2⟩, W1, hB1, hx1, hK2⟩ := h
      have HJ2 := Lib.hid hJ2
      have hW2 : CK D W W2 := (CK.of_below hB1).trans hK2
      have B29 := hW2.bx HB29.out hd29
      have B66 := hW2.bx HB66.out hd66
      have B95 := hK2.bx hx1 (fun hm => Nat.lt_irrefl _ (HD.out _ hm))
      have HW2 := Lib.hid hW2
      clear hJ2 hB1 hx1 hK2 hW2 cF cB lF lB
      have c29 := B29.cell
      have c66 := B66.cell
      have c95 := B95.cell 0
      gi_wp2_with (refine ⟨trivial, ?_⟩; refine (callsIn_wide.2 (backward_any _ _ _ _)).mono ?_; rintro e w3 ⟨rfl, rfl⟩)
      have hz2 : W.heap.size ≤ W2.heap.size := HW2.out.size
      have HZ2 := Lib.hid hz2
      clear hz2 c29 c66 c95
      obtain ⟨W3, hW3⟩ : ∃ W3, W3 = W2.alloc (.cells #[.slice Ac B.code.length kc] 62) := ⟨_, rfl⟩
      rw [← hW3]
      have hb62 : Bx W3 W2.heap.size 62 #[.slice Ac B.code.length kc] := by rw [hW3]; exact Bx.at0 _ _ _ rfl
      have HCK3 : Hid (CK D W W3) := by rw [hW3]; exact HW2.out.trans (CK.of_below (Bl.alloc (Below.refl _ _) _))
      have B29' := B29.alloc (.cells #[.slice Ac B.code.length kc] 62)
      have B95' := B95.alloc (.cells #[.slice Ac B.code.length kc] 62)
      rw [← hW3] at B29' B95'
      have HJ3 : Hid (J [(B.code.length, vu)] W3) := by rw [hW3]; exact abides_below HJA.out HJ2.out (Bl.alloc (Below.refl _ _) _)
      have HD62 : Hid (W2.heap.size ∉ D) := fun hm => by have := HD.out _ hm; have := HZ2.out; omega
      have hz3 : W.heap.size ≤ W3.heap.size := HCK3.out.size
      clear hW3 B29 B66 B95 HW2 HJ2 HZ2
      refine wpIn_rangeFunc_R rfl hn1 (gf := 62) (lb := #[.pointer (some ⟨W2.heap.size, 0, none⟩)]) rfl trivial (enter_of Tryz.func62 (by kernel_rfl) rfl)
        (back_seq (n - 1) (by omega) D W2.heap.size Ac kc B.code W3 hb62 HD62.out (HC.out _ HCK3.out) hl) (fun h k => h.trans k) (fun W l o o' _ h ho _ => CK.putObj W l o o' h ho) (Below.refl _ _) (fun _ => rfl)
        (fun pre W' => (∃ ys, J ys W' ∧ ys.length = pre.length + 1) ∧ CK D W3 W') ?hI ⟨⟨_, HJ3.out, rfl⟩, CK.refl _ _⟩
        (fun pre x a' W' => x.1 + pre.length + 1 = B.code.length ∧ RIns W'.cell? x.2 (B.code.getD x.1 default) ∧ ∃ (bx : Nat) (cs : Array Value), x.2 = .agg cs ∧ W3.heap.size ≤ bx ∧ Bx W' bx 55 cs ∧
          a' = Act.mk #[.func (.yield l) #[] #[], .pointer (some ⟨b66, 0, none⟩), .pointer (some ⟨b29, 0, none⟩), .pointer (some ⟨W.heap.size, 0, none⟩), .int .i64 x.1, .pointer (some ⟨bx, 0, none⟩), u6, u7, u8, u9, u10, u11, u12, u13, .bool true, .bool false,
            .pointer (some ⟨b66, 0, none⟩), .slice Ac B.code.length kc, .func (.func 62) #[] #[.pointer (some ⟨W2.heap.size, 0, none⟩)], .int .i64 x.1, x.2, undef, undef, undef, undef, undef, undef, undef] []) ?hAx ?assign ?body ?done
      case hI =>
        exact fun s A' B' row hs hg hr => ⟨let ⟨ys, hj, hl⟩ := hs.1; ⟨ys, HJA.out ys A' B' row hj hg (fun r e => ⟨Nat.le_trans hz3 (hr r e).1, (hr r e).2⟩), hl⟩, hs.2.trans (CK.grownBy hg (fun r e => (hr r e).2))⟩
      case hAx =>
        rintro pre x a' s A' B' row ⟨h1, h2, bx, cs, h3, h4, h5, h6⟩ hg hr
        have hck : CK [] A' B' := CK.grownBy hg (fun r e => (hr r e).2)
        exact ⟨h1, h2.mono hck.le0, bx, cs, h3, h4, hck.bx h5 (by simp), h6⟩
      case assign =>
        rintro l' pre ⟨j, vx⟩ W' K ⟨hI1, hI2⟩ ⟨hR1, hR2⟩ hK
        obtain ⟨va, vy, hvx, ⟨Aa, ka, rfl, ha1, ha2, ha3⟩, ⟨Ay, ky, rfl, hy1, hy2, hy3⟩⟩ := id hR2
        simp only at hvx hR1 hR2
        subst hvx
        have HR2 := Lib.hid hR2
        have HI1 := Lib.hid hI1
        have HI2 := Lib.hid hI2
        have HK := Lib.hid hK
        clear hK hI1 hI2 hR2 ha3 hy3
        simp only [enc2]
        gi_wp2
        obtain ⟨ys, hys, hyl⟩ := HI1.out
        exact HK.out _ _ ((KeepsOthers.alloc _ _).from _) (CK.of_below (Bl.alloc (Below.refl _ _) _)) ⟨⟨ys, abides_below HJA.out hys (Bl.alloc (Below.refl _ _) _), hyl⟩, HI2.out.trans (CK.of_below (Bl.alloc (Below.refl _ _) _))⟩
          ⟨hR1, HR2.out.mono (Bl.le (Bl.alloc (Below.refl _ _) _)), _, _, rfl, HI2.out.size, Bx.at0 _ _ _ rfl, rfl⟩
      case done =>
        rintro D' xs W4 hD' hS ⟨⟨ys, hj, hyl⟩, hck⟩ hK
        gi_wp2
        refine ⟨by simp, .inl ⟨_, _, rfl, run_takeDeferred hK, ?_⟩⟩
        refine ⟨_, results_none rfl _ _ _, ⟨_, rfl⟩, ys, by omega, ?_⟩
        exact HJA.out.putObj _ hj (by omega) hK rfl
      case body =>
        rintro l' pre ⟨j, vx⟩ a' W' hl' ⟨⟨ys, hj, hyl⟩, hck⟩ ⟨h1, h2, bx, cs, h3, h4, h5, rfl⟩
        obtain ⟨va, vy, hvx, ⟨Aa, ka, rfl, ha1, ha2, ha3⟩, ⟨Ay, ky, rfl, hy1, hy2, hy3⟩⟩ := id h2
        simp only at hvx h1 h2 h3
        subst hvx
        simp only [Value.agg.injEq] at h3
        subst h3
        obtain ⟨x, hx⟩ : ∃ x, x = B.code.getD j default := ⟨_, rfl⟩
        have hjl : j < B.code.length := by omega
        have hxa : x.args.length ≤ 100000 := by
          have := HAR.out x (by rw [hx]; exact getD_mem hjl)
          omega
        have hU : atB F B j = usesOf F x := by
          unfold atB
          rw [if_pos hjl, hx]
        rw [← hx] at h2 h5 ⊢
        have HX2 := Lib.hid h2
        have HU := Lib.hid hU
        have HJ' := Lib.hid hj
        have HCK' := Lib.hid hck
        have B29w := hck.bx B29' hd29
        have B95w := hck.bx B95' (fun hm => Nat.lt_irrefl _ (HD.out _ hm))
        have HB29w := Lib.hid B29w
        have HB95w := Lib.hid B95w
        have HBXw := Lib.hid h5
        clear h2 hU hj hck ha3 hy3 hx B29w B95w h5
        have hFW' : ∀ w', Below W'.heap.size W' w' → RFn w'.cell? (.agg (#[.string F.name, .int .i64 mo, .int .i64 pa, .slice Ab nb cb, .int .i64 ar, .int .i64 F.result.kind, .int .i64 F.result.id, .slice Ar F.result.args.length kr, .slice Al F.locals.length kl, .slice Ak F.blocks.length kk, .slice At nt ct] : Array Value)) F :=
          fun w' h => ((HF.out W' (HCK3.out.trans HCK'.out)).mono (look_le _ _)).mono (Bl.le h)
        have HFW' := Lib.hid hFW'
        clear hFW'
        gi_wp2_with fail
        refine wpIn_region_any (by kernel_rfl) ?_
        refine AnyS.any (S := (fun w' : World => (∀ j, w'.cell? ⟨b29, j, none⟩ = (#[.string F.name, .int .i64 mo, .int .i64 pa, .slice Ab nb cb, .int .i64 ar, .int .i64 F.result.kind, .int .i64 F.result.id, .slice Ar F.result.args.length kr, .slice Al F.locals.length kl, .slice Ak F.blocks.length kk, .slice At nt ct] : Array Value)[j]?) ∧ (∀ j, w'.cell? ⟨bx, j, none⟩ = (#[.int .i64 x.op, .int .i64 x.dst, .int .i64 x.a, .int .i64 x.b, .int .i64 x.n, .slice Aa x.args.length ka, .slice Ay x.types.length ky] : Array Value)[j]?) ∧ w'.cell? ⟨W.heap.size, 0, none⟩ = some (.func (.yield l) #[] #[]))) _ _ _ _ ?_
        change AnyS _ _ _ _ _ _ _ _ _ _ (World.drew _)
        have hSd : (fun w' : World => (∀ j, w'.cell? ⟨b29, j, none⟩ = (#[.string F.name, .int .i64 mo, .int .i64 pa, .slice Ab nb cb, .int .i64 ar, .int .i64 F.result.kind, .int .i64 F.result.id, .slice Ar F.result.args.length kr, .slice Al F.locals.length kl, .slice Ak F.blocks.length kk, .slice At nt ct] : Array Value)[j]?) ∧ (∀ j, w'.cell? ⟨bx, j, none⟩ = (#[.int .i64 x.op, .int .i64 x.dst, .int .i64 x.a, .int .i64 x.b, .int .i64 x.n, .slice Aa x.args.length ka, .slice Ay x.types.length ky] : Array Value)[j]?) ∧ w'.cell? ⟨W.heap.size, 0, none⟩ = some (.func (.yield l) #[] #[])) W'.drew := ⟨HB29w.out.drew.cell, HBXw.out.drew.cell, HB95w.out.drew.cell 0⟩
        (refine AnyS.take (i := 0) (v := ?_) (by kernel_rfl) rfl (by kernel_rfl) (by kernel_rfl) (by kernel_rfl) (fun _ _ _ h => h) (by assumption) ⟨⟨by rfl, ?_⟩, fun _ => rfl⟩ ?_; rotate_left; (rintro w' ⟨hs1, hs2, hs3⟩; go_simp; rfl))
        (refine AnyS.take (i := 1) (v := ?_) (by kernel_rfl) rfl (by kernel_rfl) (by kernel_rfl) (by kernel_rfl) (fun _ _ _ h => h) (by assumption) ⟨⟨by rfl, ?_⟩, fun _ => rfl⟩ ?_; rotate_left; (rintro w' ⟨hs1, hs2, hs3⟩; go_simp; rfl))
        (refine AnyS.take (i := 2) (v := ?_) (by kernel_rfl) rfl (by kernel_rfl) (by kernel_rfl) (by kernel_rfl) (fun _ _ _ h => h) (by assumption) ⟨⟨by rfl, ?_⟩, fun _ => rfl⟩ ?_; rotate_left; (rintro w' ⟨hs1, hs2, hs3⟩; go_simp; rfl))
        (refine AnyS.take (i := 3) (v := ?_) (by kernel_rfl) rfl (by kernel_rfl) (by kernel_rfl) (by kernel_rfl) (fun _ _ _ h => h) (by assumption) ⟨⟨by rfl, ?_⟩, fun _ => rfl⟩ ?_; rotate_left; (rintro w' ⟨hs1, hs2, hs3⟩; go_simp; rfl))
        refine AnyS.one (i := 4) (by kernel_rfl) ?_
        refine wpOpIn_step rfl (fun K hK => ?_)
        go_simp
        refine ⟨trivial, ?_⟩
        refine ⟨(by intro h; cases h), ?_⟩
        refine (CallsIn.inRound l' (callsIn_wide.2 (guses_any _ _ F x _ (HFW'.out _ (Bl.drew (Below.refl _ _))) (HX2.out.mono (Bl.le (Bl.drew (Below.refl _ _)))) hxa))).mono ?_
        rintro e w1 ⟨⟨vu1, rfl, hu⟩, hb1⟩
        have hB1 : Below W'.heap.size W' w1 := Bl.call (w := W') (Bl.drew (Below.refl _ _)) hb1
        obtain ⟨fn, tmps, assign, body, hy, hR⟩ := HY.out ys (j, vu1) w1 (abides_below HJA.out HJ'.out hB1) ⟨by simp only; omega, by simp only; rw [HU.out]; exact hu⟩
        simp only [enc2] at hy
        have hS1 : (fun w' : World => (∀ j, w'.cell? ⟨b29, j, none⟩ = (#[.string F.name, .int .i64 mo, .int .i64 pa, .slice Ab nb cb, .int .i64 ar, .int .i64 F.result.kind, .int .i64 F.result.id, .slice Ar F.result.args.length kr, .slice Al F.locals.length kl, .slice Ak F.blocks.length kk, .slice At nt ct] : Array Value)[j]?) ∧ (∀ j, w'.cell? ⟨bx, j, none⟩ = (#[.int .i64 x.op, .int .i64 x.dst, .int .i64 x.a, .int .i64 x.b, .int .i64 x.n, .slice Aa x.args.length ka, .slice Ay x.types.length ky] : Array Value)[j]?) ∧ w'.cell? ⟨W.heap.size, 0, none⟩ = some (.func (.yield l) #[] #[])) w1 := ⟨(HB29w.out.below hB1).cell, (HBXw.out.below hB1).cell, (HB95w.out.below hB1).cell 0⟩
        have HR := Lib.hid hR
        have HB1 := Lib.hid hB1
        obtain ⟨A0, k0, A1, k1, A2, k2, A3, k3, A4, k4, rfl⟩ := hu.open
        clear hu hb1 hB1 hR
        refine hK _ _ ⟨hS1, ?_⟩
        clear hK K
        refine AnyS.one (i := 5) (by kernel_rfl) ?_
        refine wpOpIn_step rfl (fun K hK => ?_)
        go_simp
        refine ⟨(by intro h; cases h), ?_⟩
        refine (roundW HR.out).mono ?_
        rintro e W2x ⟨rfl, hJ2, hK2, hKF⟩
        have hS2 : (fun w' : World => (∀ j, w'.cell? ⟨b29, j, none⟩ = (#[.string F.name, .int .i64 mo, .int .i64 pa, .slice Ab nb cb, .int .i64 ar, .int .i64 F.result.kind, .int .i64 F.result.id, .slice Ar F.result.args.length kr, .slice Al F.locals.length kl, .slice Ak F.blocks.length kk, .slice At nt ct] : Array Value)[j]?) ∧ (∀ j, w'.cell? ⟨bx, j, none⟩ = (#[.int .i64 x.op, .int .i64 x.dst, .int .i64 x.a, .int .i64 x.b, .int .i64 x.n, .slice Aa x.args.length ka, .slice Ay x.types.length ky] : Array Value)[j]?) ∧ w'.cell? ⟨W.heap.size, 0, none⟩ = some (.func (.yield l) #[] #[])) W2x := ⟨(hK2.bx (HB29w.out.below HB1.out) hd29).cell, (hK2.bx (HBXw.out.below HB1.out) (fun hm => by have := HD.out _ hm; omega)).cell, (hK2.bx (HB95w.out.below HB1.out) (fun hm => Nat.lt_irrefl _ (HD.out _ hm))).cell 0⟩
        have HJ2 := Lib.hid hJ2
        have HK2 := Lib.hid hK2
        have HKF := Lib.hid hKF
        clear hJ2 hK2 hKF hy
        refine hK _ _ ⟨hS2, ?_⟩
        clear hK K
        (refine AnyS.take (i := 6) (v := ?_) (by kernel_rfl) rfl (by kernel_rfl) (by kernel_rfl) (by kernel_rfl) (fun _ _ _ h => h) (by assumption) ⟨⟨by rfl, ?_⟩, fun _ => rfl⟩ ?_; rotate_left; (rintro w' ⟨hs1, hs2, hs3⟩; go_simp; rfl))
        refine AnyS.done (by kernel_rfl) ?_ _
        gi_wp2
        exact ⟨(KeepsFrom.of_grownBy (row := none) ⟨HB1.out.os, HB1.out.tape, HB1.out.output, HB1.out.size, fun k hk _ => HB1.out.block k hk⟩ (fun j h => by cases h)).trans (keepsFrom_up hz3 HKF.out), (CK.of_below HB1.out).trans HK2.out, ⟨_, HJ2.out, by simp [hyl]⟩, HCK'.out.trans ((CK.of_below HB1.out).trans HK2.out)⟩
end Go.Proofs.YtdkjkgokllmkmaaGreatDoor.Lv
