/- Walks: mark, through of the reference. -/
import Derived.Test.YtdkjkgokllmkmaaGreatDoorLwi
namespace Go.Proofs.YtdkjkgokllmkmaaGreatDoor.Lv
open Go.RowKit
set_option linter.unusedVariables false
set_option linter.unusedSimpArgs false
set_option maxHeartbeats 4000000 in
set_option maxRecDepth 100000 in
theorem mark_any (base : Nat) (v vl : Value) (xs : List Bool) (l : List Int) (b : Bool) (D : List Nat) (w : World) (h : OSet base w v xs) (hl : xs.length ≤ 1000000) (ht : RInts (look D w) vl l) (hD : ∀ k, v.ownBlock = some k → k ∈ D) :
    Calls Tryz.prog 47 #[v, vl, .bool b] w fun e w' => e = .returned (.tuple #[]) ∧ OSet base w' v (putsL xs b l) ∧ w.grownBy w' v.ownBlock := by
  obtain ⟨A, cap, rfl, h1, h2, h3⟩ := ht
  obtain ⟨B, cap', rfl⟩ := h.shape
  have HL := Lib.hid h3
  have HO := Lib.hid h
  have HD := Lib.hid hD
  have hxl : (l.length : Int) ≤ 9223372036854775807 := by unfold maxLen at h2; omega
  obtain ⟨n, hn⟩ : ∃ n, n = xs.length := ⟨_, rfl⟩
  rw [← hn] at HO HD hl ⊢
  have HN := Lib.hid hn
  clear h3 h hD hn h1
  go_enter Tryz.func47, Tryz.ntmps47
  go_wp2_with fail
  go_loopw [6] (fun i wr => ∃ (k : Nat), i = .int .i64 k ∧ k ≤ l.length ∧ Hid (OSet base wr (.slice B n cap') (putsL xs b (l.take k))) ∧ Hid (w.grownBy wr (Value.slice B n cap').ownBlock)) (fun i _ => l.length - (intOf i).toNat)
  case atStart => exact ⟨0, rfl, Nat.zero_le _, HO, grown_refl _ _⟩
  case round =>
    obtain ⟨k, rfl, hk, HOr, HG⟩ := hrel
    by_cases hlt : k < l.length
    · obtain ⟨ad, rfl, ca⟩ := (HL.out.mono monoInt (Chg.le' (Chg.grown HG.out HD.out))).int_at k hlt
      have hki : (k : Int) < (l.length : Int) := by omega
      obtain ⟨t, hte⟩ : ∃ t, t = l.getD k 0 := ⟨_, rfl⟩
      obtain ⟨zs, hz⟩ : ∃ zs, zs = putsL xs b (l.take k) := ⟨_, rfl⟩
      have hzl : n = zs.length := by rw [hz, putsL_len]; exact HN.out
      have HS : Hid (putsL xs b (l.take (k + 1)) = putL zs t b) := by
        show putsL _ _ _ = _
        rw [take_snoc _ _ 0 hlt, putsL_snoc, ← hz, hte]
      rw [← hz] at HOr
      rw [← hte] at ca
      have HZL := Lib.hid hzl
      clear hz hte
      by_cases ht0 : 0 ≤ t
      · obtain ⟨a, rfl⟩ := Int.eq_ofNat_of_zero_le ht0
        by_cases hta : a < n
        · have htai : (a : Int) < (n : Int) := by omega
          have hpl : Hid (putL zs (a : Int) b = zs.set a b) := by
            show putL _ _ _ = _
            unfold putL
            rw [if_pos ⟨by omega, by omega⟩]
            rfl
          obtain ⟨g, rfl⟩ := HOr.out.at0 (by omega)
          have c2 := HOr.out.cell (j := a) hzl (by rw [← hzl]; exact hta)
          have f2 := HOr.out.frozen hzl a
          clear hzl
          go_wp2_with fail
          go_roundw
          case rel =>
            refine ⟨k + 1, by go_num, by omega, ?_, ?_⟩
            · rw [HS.out, hpl.out]
              exact (HOr.out.put' HZL.out _).1
            · exact grown_trans HG.out (HOr.out.put' HZL.out _).2
          case measure => simp [intOf]; omega
        · have htai : (n : Int) ≤ (a : Int) := by omega
          have hpl : Hid (putL zs (a : Int) b = zs) := by
            show putL _ _ _ = _
            unfold putL
            rw [if_neg (by omega)]
          clear hzl
          go_wp2_with fail
          go_roundw
          case rel => exact ⟨k + 1, by go_num, by omega, by rw [HS.out, hpl.out]; exact HOr, HG⟩
          case measure => simp [intOf]; omega
      · have htn : t < 0 := by omega
        have hpl : Hid (putL zs t b = zs) := by
          show putL _ _ _ = _
          unfold putL
          rw [if_neg (by omega)]
        clear hzl
        go_wp2_with fail
        go_roundw
        case rel => exact ⟨k + 1, by go_num, by omega, by rw [HS.out, hpl.out]; exact HOr, HG⟩
        case measure => simp [intOf]; omega
    · obtain rfl : k = l.length := by omega
      go_wp2
      go_end0
      refine ⟨rfl, ?_, HG.out⟩
      have := HOr.out
      rwa [List.take_length] at this
theorem src_bools {w : World} {x : Value} {ys : List Bool} (h : RBools w.cell? x ys) : Src Tryz.prog 1 38 x ys.length (bools ys) w := by
  obtain ⟨A, k, rfl, h1, h2, h3⟩ := h
  cases ys with
  | nil =>
    cases A with
    | none => exact Src.ofNil w Tryz.underlying38 _
    | some a => exact Src.ofSlice w Tryz.underlying38 a 0 k [] rfl (fun j u hj => by simp at hj) (fun u hu => by simp at hu)
  | cons y ys =>
    obtain ⟨ad, es, rfl, _⟩ := h3 0 y rfl
    refine Src.ofSlice w Tryz.underlying38 ad _ k _ (by simp [bools]) (fun j u hj => ?_) (fun u hu => ?_)
    · simp only [bools, List.getElem?_map, Option.map_eq_some_iff] at hj
      obtain ⟨x, hx, rfl⟩ := hj
      obtain ⟨ad', es, e, _, h4, h5⟩ := h3 j x hx
      simp only [Option.some.injEq] at e
      subst e
      have h4' : es = [.bool x] := h4
      subst h4'
      have := h5 0 _ rfl
      rw [show j * 1 + 0 = j by omega] at this
      exact this
    · obtain ⟨x, _, rfl⟩ := List.mem_map.1 hu
      rfl
set_option maxRecDepth 100000 in
theorem run_append_b (w : World) (b base : Nat) (x : Value) (ys : List Bool) (ty : TypeId) (hb : Bx w b 4 #[]) (hbb : base ≤ b) (hx : RBools w.cell? x ys) (hn : ys.length ≤ 1000000) :
    ∃ v' w', (Builtin.append_ #[38, 38] ty #[.slice (some ⟨b, 0, none⟩) 0 0, x]).run Tryz.prog w = .ok v' w' ∧ OSet base w' v' ys ∧ Below w.heap.size w w' := by
  obtain ⟨i0, hi0, hz0, hz1, hz2⟩ := info_parts Tryz.info4
  have hs : Src Tryz.prog i0.size 38 x ys.length (bools ys) w := by rw [hz1]; exact src_bools hx
  have hbl := hb.lt
  by_cases hy : ys.length = 0
  · obtain rfl : ys = [] := List.eq_nil_of_length_eq_zero hy
    have hrun := run_append_room_src (P := Tryz.prog) w 38 38 ty 4 i0 Tryz.underlying38 hi0 b 0 0 0 x 0 (bools []) hs (by simp) (fun j hj => by simp [bools] at hj) (fun j hj => by simp [bools] at hj)
    exact ⟨_, _, hrun, ⟨by simp [bools], .inr ⟨b, 0, #[], rfl, hbb, hb, Nat.le_refl _, by simp [maxLen], rfl, by simp [bools]⟩⟩, Below.refl _ _⟩
  · have hg : (0 : Nat) < 0 + ys.length := by omega
    have hrun := run_append_grow_src (P := Tryz.prog) w 38 38 ty 4 i0 (.bool false) Tryz.underlying38 hi0 hz0 (some ⟨b, 0, none⟩) 0 0 [] (run_firstCells_some w.drew i0.size 0 ⟨b, 0, none⟩ 0 0 [] (by simp) (fun j u hj => by simp at hj)) x ys.length (bools ys) hs hg (by omega)
      (by rw [hz2]; exact growslice_fits hg (by omega))
    have hge := grownCap_ge w (0 + ys.length) 0 4
    simp only [Nat.zero_add] at hge
    have hcm := grownCap_le_maxLen w (0 + ys.length) 0 4 (by simp only [maxLen]; omega)
    refine ⟨_, _, hrun, ⟨by simp [bools], .inr ⟨w.heap.size, _, _, by rw [Nat.zero_add], by omega, heap_alloc_new w.drew _, by rw [Nat.zero_add]; exact hge, hcm, ?_, ?_⟩⟩, ⟨rfl, rfl, rfl, by simp, fun k hk => Below.heap_alloc w.drew _ k hk⟩⟩
    · simp only [Array.size_append, List.size_toArray, size_zeroCells, List.nil_append, bools, List.length_map, Value.cells]
      simp
      omega
    · simp [bools]
theorem wpList_append_b (w : World) {ops : Array Oper} {rest : List Oper} {o : Oper} {a : Act} {Q : Exit → Act → World → Prop} (hgd : o.guard = none) (s x : Operand)
    (ho : o.op = .call { callee := .builtin .append, args := #[s, x], argTypes := #[38, 38] }) {b base : Nat} {xv : Value} {ys : List Bool} (hv : a.eval s = .slice (some ⟨b, 0, none⟩) 0 0) (hxv : a.eval x = xv)
    (hb : Bx w b 4 #[]) (hbb : base ≤ b) (hx : RBools w.cell? xv ys) (hn : ys.length ≤ 1000000)
    (hK : ∀ v' w', OSet base w' v' ys → Below w.heap.size w w' → wpList Tryz.prog ops Q rest (a.put o.dst v') w') : wpList Tryz.prog ops Q (o :: rest) a w := by
  refine wpList_plain hgd fun K hK' => ?_
  obtain ⟨v', w', hrun, r1, r2⟩ := run_append_b w b base xv ys o.type hb hbb hx hn
  unfold Oper.wp
  simp [execOp, ho, resolve, invoke, builtin, hv, hxv, hrun, Result.andThen]
  exact hK' _ _ (hK v' w' r1 r2)
set_option maxHeartbeats 4000000 in
set_option maxRecDepth 100000 in
theorem rthrough_any (vu v : Value) (u : Us) (xs : List Bool) (w : World) (hu : RUs w.cell? vu u) (h : RBools w.cell? v xs) (hl : xs.length ≤ 1000000) :
    Calls Tryz.prog 35 #[vu, v] w fun e w' => (∃ v', e = .returned v' ∧ OSet w.heap.size w' v' (thr u xs)) ∧ Below w.heap.size w w' := by
  obtain ⟨A0, k0, A1, k1, A2, k2, A3, k3, A4, k4, rfl⟩ := hu.open
  have HU := Lib.hid hu
  have HX := Lib.hid h
  obtain ⟨Ax, kx, rfl, _⟩ := h
  clear hu
  go_enter Tryz.func35, Tryz.ntmps35
  obtain ⟨UC, hUC⟩ : ∃ UC : Array Value, UC = #[.slice A0 u.copies.length k0, .slice A1 u.moves.length k1, .slice A2 u.shares.length k2, .slice A3 u.lends.length k3, .slice A4 u.defs.length k4] := ⟨_, rfl⟩
  have HB0 : Hid (Bx (((w.alloc (.cells #[.slice A0 u.copies.length k0, .slice A1 u.moves.length k1, .slice A2 u.shares.length k2, .slice A3 u.lends.length k3, .slice A4 u.defs.length k4] 40))).alloc (.cells #[] 4)) (w.heap.size + 1) 4 #[]) := Bx.at0 _ _ _ (by simp)
  have HXR : Hid (RBools (((w.alloc (.cells #[.slice A0 u.copies.length k0, .slice A1 u.moves.length k1, .slice A2 u.shares.length k2, .slice A3 u.lends.length k3, .slice A4 u.defs.length k4] 40))).alloc (.cells #[] 4)).cell? (.slice Ax xs.length kx) xs) := HX.out.mono monoBool (Bl.le (Bl.alloc (Bl.alloc (Below.refl _ _) _) _))
  have HBU : Hid (Bx (((w.alloc (.cells #[.slice A0 u.copies.length k0, .slice A1 u.moves.length k1, .slice A2 u.shares.length k2, .slice A3 u.lends.length k3, .slice A4 u.defs.length k4] 40))).alloc (.cells #[] 4)) w.heap.size 40 #[.slice A0 u.copies.length k0, .slice A1 u.moves.length k1, .slice A2 u.shares.length k2, .slice A3 u.lends.length k3, .slice A4 u.defs.length k4]) := (Bx.at0 _ _ _ rfl).alloc _
  clear hUC
  go_wp2_with (at_builtin; refine wpList_append_b _ rfl (.tmp 6) (.tmp 7) rfl rfl rfl HB0.out (Nat.le_succ _) HXR.out hl ?_; intro v' w1 ho hb1; have HO1 := Lib.hid ho; have cU := (HBU.out.below hb1).cell; have HB1 := Lib.hid hb1; clear ho hb1)
  have HBU1 := Lib.hid (HBU.out.below HB1.out)
  have HW1 := Lib.hid (Bl.call (w := w) (Bl.alloc (Bl.alloc (Below.refl _ _) _) _) HB1.out)
  have HDge : Hid (∀ k, k ∈ v'.ownBlock.toList → w.heap.size ≤ k) := fun k hk => (HO1.out.box (by simpa using hk)).1
  have HDin : Hid (∀ k, v'.ownBlock = some k → k ∈ v'.ownBlock.toList) := fun k hk => by simp [hk]
  obtain ⟨q0, q1, q2, q3, q4, eq, p0, p1, p2, p3, p4⟩ := HU.out
  simp only [Value.agg.injEq, Array.mk.injEq, List.cons.injEq, and_true] at eq
  obtain ⟨rfl, rfl, rfl, rfl, rfl⟩ := eq
  have HP0 := Lib.hid p0
  have HP1 := Lib.hid p1
  have HP2 := Lib.hid p2
  have HP3 := Lib.hid p3
  have HP4 := Lib.hid p4
  clear HB1 HBU HXR HB0 HX HU p0 p1 p2 p3 p4 cU
  refine (mark_any w.heap.size v' _ xs u.defs false v'.ownBlock.toList w1 HO1.out (by exact hl) (HP4.out.mono monoInt (le_look HW1.out HDge.out)) HDin.out).mono ?_
  rintro e w2 ⟨rfl, ho2, hg2⟩
  have HO2 := Lib.hid ho2
  have HW2 := Lib.hid (Bl.grown HW1.out hg2 (fun k hk => (HO1.out.box hk).1))
  have HBU2 := Lib.hid (HBU1.out.grown hg2 (HO1.out.tag HBU1.out (by simp)))
  have cU := HBU2.out.cell
  clear ho2 hg2 HO1 HW1 HBU1
  go_wp2_with fail
  clear cU
  refine (mark_any w.heap.size v' _ (putsL xs false u.defs) u.copies true v'.ownBlock.toList w2 HO2.out (by simp only [putsL_len]; exact hl) (HP0.out.mono monoInt (le_look HW2.out HDge.out)) HDin.out).mono ?_
  rintro e w3 ⟨rfl, ho3, hg3⟩
  have HO3 := Lib.hid ho3
  have HW3 := Lib.hid (Bl.grown HW2.out hg3 (fun k hk => (HO2.out.box hk).1))
  have HBU3 := Lib.hid (HBU2.out.grown hg3 (HO2.out.tag HBU2.out (by simp)))
  have cU := HBU3.out.cell
  clear ho3 hg3 HO2 HW2 HBU2
  go_wp2_with fail
  clear cU
  refine (mark_any w.heap.size v' _ (putsL (putsL xs false u.defs) true u.copies) u.moves true v'.ownBlock.toList w3 HO3.out (by simp only [putsL_len]; exact hl) (HP1.out.mono monoInt (le_look HW3.out HDge.out)) HDin.out).mono ?_
  rintro e w4 ⟨rfl, ho4, hg4⟩
  have HO4 := Lib.hid ho4
  have HW4 := Lib.hid (Bl.grown HW3.out hg4 (fun k hk => (HO3.out.box hk).1))
  have HBU4 := Lib.hid (HBU3.out.grown hg4 (HO3.out.tag HBU3.out (by simp)))
  have cU := HBU4.out.cell
  clear ho4 hg4 HO3 HW3 HBU3
  go_wp2_with fail
  clear cU
  refine (mark_any w.heap.size v' _ (putsL (putsL (putsL xs false u.defs) true u.copies) true u.moves) u.shares true v'.ownBlock.toList w4 HO4.out (by simp only [putsL_len]; exact hl) (HP2.out.mono monoInt (le_look HW4.out HDge.out)) HDin.out).mono ?_
  rintro e w5 ⟨rfl, ho5, hg5⟩
  have HO5 := Lib.hid ho5
  have HW5 := Lib.hid (Bl.grown HW4.out hg5 (fun k hk => (HO4.out.box hk).1))
  have HBU5 := Lib.hid (HBU4.out.grown hg5 (HO4.out.tag HBU4.out (by simp)))
  have cU := HBU5.out.cell
  clear ho5 hg5 HO4 HW4 HBU4
  go_wp2_with fail
  clear cU
  refine (mark_any w.heap.size v' _ (putsL (putsL (putsL (putsL xs false u.defs) true u.copies) true u.moves) true u.shares) u.lends true v'.ownBlock.toList w5 HO5.out (by simp only [putsL_len]; exact hl) (HP3.out.mono monoInt (le_look HW5.out HDge.out)) HDin.out).mono ?_
  rintro e w6 ⟨rfl, ho6, hg6⟩
  have HO6 := Lib.hid ho6
  have HW6 := Lib.hid (Bl.grown HW5.out hg6 (fun k hk => (HO5.out.box hk).1))
  have HBU6 := Lib.hid (HBU5.out.grown hg6 (HO5.out.tag HBU5.out (by simp)))
  have cU := HBU6.out.cell
  clear ho6 hg6 HO5 HW5 HBU5
  go_wp2_with fail
  go_ret
  refine ⟨⟨_, rfl, ?_⟩, HW6.out⟩
  have e : thr u xs = (putsL (putsL (putsL (putsL (putsL xs false u.defs) true u.copies) true u.moves) true u.shares) true u.lends) := by
    unfold thr cats
    simp only [List.flatMap_cons, List.flatMap_nil, id_eq, List.append_nil, putsL_app]
  rw [e]
  exact HO6.out
end Go.Proofs.YtdkjkgokllmkmaaGreatDoor.Lv

