/- Walks: graph's Copyable, index, takes, lends. -/
import Derived.Test.YtdkjkgokllmkmaaGreatDoorLvj
namespace Go.Proofs.YtdkjkgokllmkmaaGreatDoor.Lv
open Go.RowKit
set_option linter.unusedVariables false
set_option linter.unusedSimpArgs false
theorem gindex_any (n : Int) (A : Option Addr) (l cap : Nat) (w : World) :
    Calls Tryz.prog 65 #[.int .i64 n, .slice A l cap] w fun e w' => e = .returned (.bool (decide (0 ≤ n) && decide (n < l))) ∧ w' = w := by
  by_cases h : 0 ≤ n
  · go_enter Tryz.func65, Tryz.ntmps65
    go_wp2
    go_ret
    exact ⟨by simp [h], rfl⟩
  · have h' : n < 0 := by omega
    go_enter Tryz.func65, Tryz.ntmps65
    go_wp2
    go_ret
    exact ⟨by simp; omega, rfl⟩
set_option maxHeartbeats 1000000 in
set_option maxRecDepth 100000 in
theorem sindex_any (vs : Value) (l : List Int) (x : Int) (w : World) (hl : RInts w.cell? vs l) :
    Calls Tryz.prog 134 #[vs, .int .i64 x] w fun e w' => (∃ j : Int, e = .returned (.int .i64 j) ∧ decide (0 ≤ j) = decide (x ∈ l)) ∧ w' = w := by
  obtain ⟨Ai, ki, rfl, hi1, hi2, hi3⟩ := id hl
  have HL := Lib.hid hi3
  have hll : (l.length : Int) ≤ 9223372036854775807 := by unfold maxLen at hi2; omega
  clear hl hi3
  go_enter Tryz.func134, Tryz.ntmps134
  go_wp2_with fail
  go_loopw [8] (fun i wr => ∃ (k : Nat), i = .int .i64 k ∧ k ≤ l.length ∧ Hid (x ∉ l.take k) ∧ wr = w) (fun i _ => l.length - (intOf i).toNat)
  case atStart => exact ⟨0, rfl, Nat.zero_le _, (by simp [Hid]), rfl⟩
  case round =>
    obtain ⟨k, rfl, hk, HN, rfl⟩ := hrel
    by_cases hlt : k < l.length
    · obtain ⟨ad, rfl, ca⟩ := HL.out.int_at k hlt
      obtain ⟨y, hy⟩ : ∃ y, y = l.getD k 0 := ⟨_, rfl⟩
      rw [← hy] at ca
      have hki : (k : Int) < (l.length : Int) := by omega
      by_cases hxy : x = y
      · have hm : x ∈ l := by
          rw [hxy, hy]
          exact (getD_mem hlt)
        have HM := Lib.hid hm
        subst hxy
        clear hy hm
        go_wp2
        go_ret
        exact ⟨⟨k, rfl, by simp [HM.out]⟩, rfl⟩
      · have HN1 : Hid (x ∉ l.take (k + 1)) := by
          show ¬ _
          rw [take_snoc l k 0 hlt, ← hy]
          simp only [List.mem_append, List.mem_singleton]
          rintro (h | h)
          · exact HN.out h
          · exact hxy h
        clear hy
        go_wp2
        go_roundw
        case rel => exact ⟨k + 1, by go_num, by omega, HN1, by trivial⟩
        case measure => simp [intOf]; omega
    · obtain rfl : k = l.length := by omega
      have HN1 := HN.out
      rw [List.take_length] at HN1
      have HN2 := Lib.hid HN1
      clear HN1
      go_wp2
      go_ret
      exact ⟨⟨-1, rfl, by simp [HN2.out]⟩, rfl⟩
theorem scontains_any (vs : Value) (l : List Int) (x : Int) (w : World) (hl : RInts w.cell? vs l) :
    Calls Tryz.prog 95 #[vs, .int .i64 x] w fun e w' => e = .returned (.bool (decide (x ∈ l))) ∧ w' = w := by
  obtain ⟨Ai, ki, rfl, hi1, hi2, hi3⟩ := id hl
  have HL := Lib.hid hl
  clear hl hi3
  go_enter Tryz.func95, Tryz.ntmps95
  go_wp2_with (go_at_call 134; refine (sindex_any _ l _ _ HL.out).mono ?_; rintro e w' ⟨⟨j, rfl, hj⟩, rfl⟩; have HJ := Lib.hid hj; clear hj)
  go_ret
  exact ⟨by rw [← HJ.out]; rfl, rfl⟩
theorem gcopyable_any (k i : Int) (v : Value) (w : World) :
    Calls Tryz.prog 66 #[.agg #[.int .i64 k, .int .i64 i, v]] w fun e w' => e = .returned (.bool (copyable k)) ∧ Below w.heap.size w w' := by
  go_enter Tryz.func66, Tryz.ntmps66
  go_wp2_with (go_at_call 95; refine (scontains_any _ [1, 4, 7] _ _ (rints_box (xs := [1, 4, 7]) (Bx.at0 _ _ _ (by simp)) rfl (by simp [maxLen]))).mono ?_; rintro e w' ⟨rfl, rfl⟩)
  go_ret
  refine ⟨?_, by repeat (first | exact Below.refl _ _ | apply Bl.alloc)⟩
  have : (decide (k = 1) || (decide (k = 4) || decide (k = 7))) = copyable k := by
    rw [Bool.eq_iff_iff]
    simp [copyable, or_assoc]
  rw [← this]
  rfl

theorem own_some {w : World} {base e sz n : Nat} {v : Value} {xs : List Value} (h : w.ownsRow base e sz v (n + 1) xs) : ∃ g cap, v = .slice (some ⟨g, 0, none⟩) (n + 1) cap := by
  rcases h.2 with ⟨_, h0⟩ | ⟨g, cap, cur, rfl, _⟩
  · omega
  · exact ⟨_, _, rfl⟩
theorem own_at {w : World} {o : Obj} {g n cap : Nat} {r : Option Nat} (h : (Value.slice (some ⟨g, 0, none⟩) n cap).ownBlock = r ∨ (Value.slice (some ⟨g, 0, none⟩) n cap).ownBlock = some (w.alloc o).heap.size) : r = some g ∨ g = w.heap.size + 1 := by
  rcases h with h | h
  · exact .inl (by rw [← h]; rfl)
  · simp only [Value.ownBlock, Option.some.injEq] at h
    exact .inr (by simpa using h)
set_option maxHeartbeats 1000000 in
set_option maxRecDepth 100000 in
theorem gtakes_any (D : List Nat) (v : Value) (F : Fn) (vc vm vl : Value) (A2 A3 A4 : Option Addr) (n2 k2 n3 k3 n4 k4 : Nat) (cs ms l : List Int) (w : World)
    (hF : RFn (look D w) v F) (hl : RInts (look D w) vl l) (hoc : w.ownsRow 0 3 1 vc cs.length (ints cs)) (hom : w.ownsRow 0 3 1 vm ms.length (ints ms))
    (hne : ∀ k, vc.ownBlock = some k → vm.ownBlock ≠ some k) (hDc : ∀ k, vc.ownBlock = some k → k ∈ D) (hDm : ∀ k, vm.ownBlock = some k → k ∈ D) (hD : ∀ k, k ∈ D → k < w.heap.size)
    (hn : cs.length + ms.length + l.length ≤ 1000000) :
    Calls Tryz.prog 61 #[v, .agg #[vc, vm, .slice A2 n2 k2, .slice A3 n3 k3, .slice A4 n4 k4], vl] w (TkPost D w (.slice A2 n2 k2) (.slice A3 n3 k3) (.slice A4 n4 k4) (tkU F cs ms l).copies (tkU F cs ms l).moves) := by
  obtain ⟨mo, pa, ar, vb, vr, vl', vk, vt, Ab, At, nb, cb, nt, ct, rfl, rfl, rfl, m1, m2, ⟨Ar, kr, rfl, hr1, hr2, hr3⟩, ⟨Al, kl, rfl, h1, h2, hL⟩, ⟨Ak, kk, rfl, hk1, hk2, hk3⟩⟩ := id hF
  obtain ⟨Ai, ki, rfl, hi1, hi2, hi3⟩ := id hl
  obtain ⟨xc, kc, rfl⟩ : ∃ A k, vc = .slice A cs.length k := by
    rcases hoc.2 with ⟨rfl, h0⟩ | ⟨g, cap, cur, rfl, _⟩
    · exact ⟨none, 0, by rw [h0]⟩
    · exact ⟨_, _, rfl⟩
  obtain ⟨xm, km, rfl⟩ : ∃ A k, vm = .slice A ms.length k := by
    rcases hom.2 with ⟨rfl, h0⟩ | ⟨g, cap, cur, rfl, _⟩
    · exact ⟨none, 0, by rw [h0]⟩
    · exact ⟨_, _, rfl⟩
  have HLO : Hid (∀ c, Le (look D w) c → RRow KTy 3 c Al F.locals) := fun c hc => hL.mono monoTy hc
  clear hr3 hk3 hL
  have HL := Lib.hid hi3
  have HOC := Lib.hid hoc
  have HOM := Lib.hid hom
  have HNE := Lib.hid hne
  have HDC := Lib.hid hDc
  have HDM := Lib.hid hDm
  have HD := Lib.hid hD
  have hll : l.length ≤ 1000000 := by omega
  clear hF hl hi3 hoc hom hne hDc hDm hD
  obtain ⟨i0, hi0, hz0, hz1, hz2⟩ := info_parts Tryz.info3
  go_enter Tryz.func61, Tryz.ntmps61
  go_wp2_with fail
  obtain ⟨W, hW⟩ : ∃ W, W = ((w.alloc (Obj.cells #[Value.string F.name, Value.int IntKind.i64 mo, Value.int IntKind.i64 pa, Value.slice Ab nb cb, Value.int IntKind.i64 ar, Value.int IntKind.i64 F.result.kind, Value.int IntKind.i64 F.result.id,
    Value.slice Ar F.result.args.length kr, Value.slice Al F.locals.length kl, Value.slice Ak F.blocks.length kk, Value.slice At nt ct] 29)).alloc (Obj.cells #[Value.slice xc cs.length kc, Value.slice xm ms.length km, Value.slice A2 n2 k2, Value.slice A3 n3 k3,
          Value.slice A4 n4 k4] 40)).alloc (Obj.cells #[Value.slice none 0 0, Value.slice none 0 0, Value.slice none 0 0, Value.slice none 0 0, Value.slice none 0 0] 40) := ⟨_, rfl⟩
  rw [← hW]
  have HR0 : Hid (TkR D W #[Value.string F.name, Value.int IntKind.i64 mo, Value.int IntKind.i64 pa, Value.slice Ab nb cb, Value.int IntKind.i64 ar, Value.int IntKind.i64 F.result.kind, Value.int IntKind.i64 F.result.id,
    Value.slice Ar F.result.args.length kr, Value.slice Al F.locals.length kl, Value.slice Ak F.blocks.length kk, Value.slice At nt ct] (.slice A2 n2 k2) (.slice A3 n3 k3) (.slice A4 n4 k4) cs ms w.heap.size W (.slice xc cs.length kc) (.slice xm ms.length km)) := by
    subst hW
    exact ⟨((Bx.new w _ _).alloc _).alloc _, by simpa using (Bx.new (w.alloc _) _ _).alloc _, by simpa using Bx.new ((w.alloc _).alloc _) _ _, ((HOC.out.alloc _).alloc _).alloc _, ((HOM.out.alloc _).alloc _).alloc _, HNE.out,
      fun k hk => .inl (HDC.out k hk), fun k hk => .inl (HDM.out k hk), Chg.refl _ _, by simp⟩
  have HWw : Hid (Chg D w W) := by
    subst hW
    exact ((Chg.alloc _ _ _).trans (Chg.alloc _ _ _)).trans (Chg.alloc _ _ _)
  clear hW
  go_loopw [11] (fun i wr => ∃ (k : Nat) (vc vm : Value), i = .int .i64 k ∧ k ≤ l.length ∧ Hid (TkR D W #[Value.string F.name, Value.int IntKind.i64 mo, Value.int IntKind.i64 pa, Value.slice Ab nb cb, Value.int IntKind.i64 ar, Value.int IntKind.i64 F.result.kind, Value.int IntKind.i64 F.result.id,
    Value.slice Ar F.result.args.length kr, Value.slice Al F.locals.length kl, Value.slice Ak F.blocks.length kk, Value.slice At nt ct] (.slice A2 n2 k2) (.slice A3 n3 k3) (.slice A4 n4 k4) (tkU F cs ms (l.take k)).copies (tkU F cs ms (l.take k)).moves w.heap.size wr vc vm))
    (fun i _ => l.length - (intOf i).toNat)
  case atStart => exact ⟨0, _, _, rfl, Nat.zero_le _, HR0⟩
  case round =>
    obtain ⟨k, vc, vm, rfl, hk, HR⟩ := hrel
    obtain ⟨⟨Ac, kc', rfl⟩, ⟨Am, km', rfl⟩⟩ := HR.out.slice
    have cF := HR.out.bF.cell
    have hll2 := tkU_len F cs ms (l.take k)
    rw [List.length_take, Nat.min_eq_left hk] at hll2
    by_cases hlt : k < l.length
    · obtain ⟨ad, rfl, ca⟩ := HL.out.int_at k hlt
      obtain ⟨x, hx0⟩ : ∃ x, x = l.getD k 0 := ⟨_, rfl⟩
      rw [← hx0] at ca
      have HX := Lib.hid hx0
      clear hx0
      have cl : wr.cell? (ad.add k) = some (.int .i64 x) := HR.out.le HWw.out _ _ ca
      clear ca
      have hki : (k : Int) < (l.length : Int) := by omega
      by_cases hin : 0 ≤ x ∧ x < F.locals.length
      · obtain ⟨n, rfl⟩ := Int.eq_ofNat_of_zero_le hin.1
        have hn1 : n < F.locals.length := by omega
        have hn2 : (n : Int) < (F.locals.length : Int) := by omega
        obtain ⟨al, va, rfl, c0, c1, c2, ⟨A2', k2', rfl, _, _, _⟩⟩ := (HLO.out _ (HR.out.le HWw.out)).ty_at n hn1
        have hkd : kindOf F n = (F.locals.getD n default).kind := by unfold kindOf; rw [if_pos hin]; rfl
        obtain ⟨ty, hty⟩ : ∃ ty, ty = F.locals.getD n default := ⟨_, rfl⟩
        rw [← hty] at hkd c0 c1 c2
        clear hty
        have HB : Hid ((decide ((0 : Int) ≤ (n : Int)) && decide ((n : Int) < (F.locals.length : Int))) = true) := by simp [Hid, hn1]
        have HK := Lib.hid hkd
        clear hin hkd
        go_wp2_with fail
        refine (gindex_any _ _ _ _ _).mono ?_
        rintro e w1 ⟨rfl, rfl⟩
        rw [HB.out]
        clear HB
        go_wp2_with fail
        refine (gcopyable_any _ _ _ _).mono ?_
        rintro e w2 ⟨rfl, hb2⟩
        rw [← HK.out]
        have HR1 := Lib.hid (HR.out.call hb2)
        clear HR cF cl c0 c1 c2 hb2
        have HR := HR1
        clear HR1
        have cU := HR.out.bU.cell
        have fU := HR.out.bU.frozen
        by_cases hcp : copyable (kindOf F (n : Int)) = true
        · rw [hcp]

          have aU : (Value.slice Ac (tkU F cs ms (l.take k)).copies.length kc').ownBlock ≠ some (w.heap.size + 1) := fun e => HR.out.bU.not_row HR.out.oc (by decide) e.symm
          have hown := HR.out.oc
          go_wp2_with (at_builtin; refine wpList_append_own_at _ rfl _ _ 27 rfl 0 3 i0 (.int .i64 0) 1 8 Tryz.underlying27 hi0 hz0 hz1 hz2 rfl (by omega) _ _ _ rfl (hown.alloc _) ⟨w2.heap.size, 0, none⟩ 1 1 [.int .i64 (n : Int)] rfl rfl (World.news_of_block (cs := #[.int .i64 (n : Int)]) (t := 3) (fr := (0, 0)) (heap_alloc_new w2 _)) (by simp [Value.oneCell']) (by unfold maxLen; omega) (by omega) (by simp) ?_; intro v' w1 hown1 hgrow _ hat; obtain ⟨gg, cap, rfl⟩ := own_some hown1; have hat := own_at hat; have bu1 := (HR.out.bU.alloc _).grown hgrow (fun e => aU e.symm); have cu1 := bu1.cell 0; have fu1 := bu1.frozen 0; have BU1 := Lib.hid bu1; clear bu1)
          have HR2 := Lib.hid (HR.out.app0 rfl hown1 hgrow hat)
          clear HR cU fU hown hown1 hgrow hat cu1 fu1 BU1 aU
          go_roundw
          case rel => exact ⟨k + 1, _, _, by go_num, by omega, by rw [take_snoc l k 0 hlt, ← HX.out, tkU_snoc]; unfold take1; rw [if_pos hcp]; exact HR2⟩
          case measure => simp [intOf]; omega

        · have hcp' : copyable (kindOf F (n : Int)) = false := by simpa using hcp
          rw [hcp']

          have aU : (Value.slice Am (tkU F cs ms (l.take k)).moves.length km').ownBlock ≠ some (w.heap.size + 1) := fun e => HR.out.bU.not_row HR.out.om (by decide) e.symm
          have hown := HR.out.om
          go_wp2_with (at_builtin; refine wpList_append_own_at _ rfl _ _ 27 rfl 0 3 i0 (.int .i64 0) 1 8 Tryz.underlying27 hi0 hz0 hz1 hz2 rfl (by omega) _ _ _ rfl (hown.alloc _) ⟨w2.heap.size, 0, none⟩ 1 1 [.int .i64 (n : Int)] rfl rfl (World.news_of_block (cs := #[.int .i64 (n : Int)]) (t := 3) (fr := (0, 0)) (heap_alloc_new w2 _)) (by simp [Value.oneCell']) (by unfold maxLen; omega) (by omega) (by simp) ?_; intro v' w1 hown1 hgrow _ hat; obtain ⟨gg, cap, rfl⟩ := own_some hown1; have hat := own_at hat; have bu1 := (HR.out.bU.alloc _).grown hgrow (fun e => aU e.symm); have cu1 := bu1.cell 1; have fu1 := bu1.frozen 1; have BU1 := Lib.hid bu1; clear bu1)
          have HR2 := Lib.hid (HR.out.app1 rfl hown1 hgrow hat)
          clear HR cU fU hown hown1 hgrow hat cu1 fu1 BU1 aU
          go_roundw
          case rel => exact ⟨k + 1, _, _, by go_num, by omega, by rw [take_snoc l k 0 hlt, ← HX.out, tkU_snoc]; unfold take1; rw [if_neg hcp]; exact HR2⟩
          case measure => simp [intOf]; omega

      · have hcp : ¬ copyable (kindOf F x) = true := by unfold kindOf; rw [if_neg hin]; decide
        have HB : Hid ((decide ((0 : Int) ≤ x) && decide (x < (F.locals.length : Int))) = false) := by simpa [Hid] using fun h0 => Int.not_lt.1 (fun h1 => hin ⟨h0, h1⟩)
        clear hin
        go_wp2_with fail
        refine (gindex_any _ _ _ _ _).mono ?_
        rintro e w2 ⟨rfl, rfl⟩
        rw [HB.out]
        clear HB cF cl
        have cU := HR.out.bU.cell
        have fU := HR.out.bU.frozen

        have aU : (Value.slice Am (tkU F cs ms (l.take k)).moves.length km').ownBlock ≠ some (w.heap.size + 1) := fun e => HR.out.bU.not_row HR.out.om (by decide) e.symm
        have hown := HR.out.om
        go_wp2_with (at_builtin; refine wpList_append_own_at _ rfl _ _ 27 rfl 0 3 i0 (.int .i64 0) 1 8 Tryz.underlying27 hi0 hz0 hz1 hz2 rfl (by omega) _ _ _ rfl (hown.alloc _) ⟨w2.heap.size, 0, none⟩ 1 1 [.int .i64 x] rfl rfl (World.news_of_block (cs := #[.int .i64 x]) (t := 3) (fr := (0, 0)) (heap_alloc_new w2 _)) (by simp [Value.oneCell']) (by unfold maxLen; omega) (by omega) (by simp) ?_; intro v' w1 hown1 hgrow _ hat; obtain ⟨gg, cap, rfl⟩ := own_some hown1; have hat := own_at hat; have bu1 := (HR.out.bU.alloc _).grown hgrow (fun e => aU e.symm); have cu1 := bu1.cell 1; have fu1 := bu1.frozen 1; have BU1 := Lib.hid bu1; clear bu1)
        have HR2 := Lib.hid (HR.out.app1 rfl hown1 hgrow hat)
        clear HR cU fU hown hown1 hgrow hat cu1 fu1 BU1 aU
        go_roundw
        case rel => exact ⟨k + 1, _, _, by go_num, by omega, by rw [take_snoc l k 0 hlt, ← HX.out, tkU_snoc]; unfold take1; rw [if_neg hcp]; exact HR2⟩
        case measure => simp [intOf]; omega

    · obtain rfl : k = l.length := by omega
      have cU := HR.out.bU.cell
      have cR := HR.out.bR.cell
      have fR := HR.out.bR.frozen
      rw [List.take_length] at HR
      simp only [List.take_length] at cU hll2
      go_wp2
      refine bodyPost_ret (v := .agg #[.slice Ac (tkU F cs ms l).copies.length kc', .slice Am (tkU F cs ms l).moves.length km', .slice A2 n2 k2, .slice A3 n3 k3, .slice A4 n4 k4]) (by simp [results, Tryz.results61, go_sem, cU, cR, fR]) rfl ?_
      exact HR.out.done HWw.out _ _ _ _ _
end Go.Proofs.YtdkjkgokllmkmaaGreatDoor.Lv
