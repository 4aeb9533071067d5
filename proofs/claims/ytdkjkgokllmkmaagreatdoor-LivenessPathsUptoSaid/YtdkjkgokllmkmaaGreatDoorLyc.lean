/- LivenessPaths: the walk. -/
import Derived.Test.YtdkjkgokllmkmaaGreatDoorLyb
import Derived.Test.YtdkjkgokllmkmaaGreatDoorLxt
import Derived.Test.YtdkjkgokllmkmaaGreatDoorLxq
import Derived.Test.YtdkjkgokllmkmaaGreatDoorLwk
import Derived.Test.YtdkjkgokllmkmaaGreatDoorLyd
namespace Go.Proofs.YtdkjkgokllmkmaaGreatDoor.Lv
open Go.RowKit
set_option linter.unusedVariables false
set_option linter.unusedSimpArgs false
section
variable {md : Region.Mode} {ops : Array Oper} {Q : Exit → Act → World → Prop}
theorem wpOp_app {i : Nat} {o : Oper} {K : Act → World → Prop} {a : Act} {w : World} (hoi : ops[i]? = some o) (hw : ∀ t, Region.wanted o t = true) (s x : Operand) (t : TypeId)
    (ho : o.op = .call { callee := .builtin .append, args := #[s, x], argTypes := #[t, t] })
    (base : Nat) (e : TypeId) (i0 : TypeInfo) (z : Value) (size bytes : Nat) (ht : Tryz.prog.underlying t = some (.slice e)) (hi : Tryz.prog.info? e = some i0) (hz : i0.zero = some z)
    (hsize : i0.size = size) (hby : i0.bytes = bytes) (hzs : z.cells.size = size) (hsz : 0 < size)
    (v : Value) (n : Nat) (xs : List Value) (hs : a.eval s = v) (hown : w.ownsRow base e size v n xs)
    (ad : Addr) (m c : Nat) (news : List Value) (hx : a.eval x = .slice (some ad) m c) (hl : news.length = m * size) (hnews : ∀ j u, news[j]? = some u → w.cell? (ad.add j) = some u) (h1 : ∀ u ∈ news, u.oneCell' = true)
    (h63 : n + m ≤ maxLen) (hbytes : (n + m) * bytes ≤ 140737488355328) (hbase : base ≤ w.heap.size)
    (h : ∀ v' w', w'.ownsRow base e size v' (n + m) (xs ++ news) → w.grownBy w' v.ownBlock → (v'.ownBlock = v.ownBlock ∨ v'.ownBlock = some w.heap.size) → K (a.put o.dst v') w') : wpOpIn Fence.wide 100 Tryz.prog ops Q i K a w := by
  obtain ⟨v', w', hr, h2, h3, h4, h5⟩ := run_append_own_at (P := Tryz.prog) w base t o.type e i0 z size bytes ht hi hz hsize hby hzs hsz v n xs hown ad m c news hl hnews h1 h63 hbytes hbase
  refine wpOp_value (v := v') (w' := w') hoi hw (fun c hc => by rw [ho] at hc; cases hc) ?_ (h v' w' h2 h3 h5)
  unfold execOp
  simp only [ho, resolve, invoke, builtin, Sem.run_bind, Sem.run_pure, Result.andThen_ok, List.map_toArray, List.map_cons, List.map_nil, hs, hx, hr]
end
theorem RUs.defs2 {c : Lk} {v0 v1 v2 v3 v4 : Value} {u : Us} (h : RUs c (.agg #[v0, v1, v2, v3, v4]) u) : RInts c v4 u.defs := by
  obtain ⟨q0, q1, q2, q3, q4, eq, p0, p1, p2, p3, p4⟩ := h
  simp only [Value.agg.injEq, Array.mk.injEq, List.cons.injEq, and_true] at eq
  obtain ⟨rfl, rfl, rfl, rfl, rfl⟩ := eq
  exact p4
def nts (T : List Nat) : List Value := ints (T.map fun (n : Nat) => (n : Int))
theorem nts_len (T : List Nat) : (nts T).length = T.length := by simp [nts]
theorem nts_snoc (T : List Nat) (n : Nat) : nts (T ++ [n]) = nts T ++ [.int .i64 (n : Int)] := by simp [nts]
/-- An own row of numbers: its slice, and what lies in it. -/
theorem own_nts {w : World} {base : Nat} {t : Value} {T : List Nat} (h : w.ownsRow base 3 1 t T.length (nts T)) {k n : Nat} (hk : T[k]? = some n) : ∃ g cap, t = .slice (some ⟨g, 0, none⟩) T.length cap ∧ w.cell? ⟨g, k, none⟩ = some (.int .i64 (n : Int)) := by
  have hl := (List.getElem?_eq_some_iff.1 hk).1
  have h' := h
  obtain ⟨hlen, h2⟩ := h
  rcases h2 with ⟨rfl, h0⟩ | ⟨g, cap, cur, rfl, hb, hg, hn, hm, hs, ht⟩
  · omega
  · refine ⟨g, cap, rfl, ?_⟩
    have := h'.cells (g := g) rfl k (.int .i64 (n : Int)) (by simp [nts, hk])
    rw [Addr.add_lit, Nat.zero_add] at this
    exact this
theorem own_shp {w : World} {base e n : Nat} {t : Value} {xs : List Value} (h : w.ownsRow base e 1 t n xs) : ∃ A cap, t = .slice A n cap := by
  rcases h.2 with ⟨rfl, h0⟩ | ⟨g, cap, cur, rfl, _⟩
  · exact ⟨none, 0, by rw [h0]⟩
  · exact ⟨_, _, rfl⟩
/-- Where the search stands, in memory. -/
def PRel (F : Fn) (w W5 : World) (FC : Array Value) (bF bS np vv fi : Nat) (t g i : Value) (wr : World) (n : Nat) : Prop :=
  ∃ (S : Nat → Bool) (T : List Nat) (k : Nat) (want : Bool), g = .bool want ∧ i = .int .i64 (k : Int) ∧ PI F vv fi S T k want ∧ n = 100 * uns S np + (T.length - k) ∧ T.length + 20 * uns S np ≤ 20 * np + 1 ∧
    Hid (Below w.heap.size w wr) ∧ Hid (Below W5.heap.size W5 wr) ∧ Hid (Bx wr bF 29 FC) ∧ Hid (Bx wr bS 4 (tabA np fun n => .bool (S n))) ∧ Hid (wr.ownsRow W5.heap.size 3 1 t T.length (nts T))
set_option maxHeartbeats 16000000 in
set_option maxRecDepth 100000 in
theorem paths_any (vf : Value) (F : Fn) (a1 a2 : Int) (w : World) (hF : RFn w.cell? vf F) (hw1 : (Lit.int .u16 a1).wf = true) (hw2 : (Lit.int .u16 a2).wf = true) (hsm : (pts F).length ≤ 2000000) :
    Calls Tryz.prog 5 #[vf, .int .u16 a1, .int .u16 a2] w fun e w' => e = .returned (.bool true) ∧ Below w.heap.size w w' := by
  obtain ⟨mo, pa, ar, vb, vr, vl', vk, vt, Ab, At, nb, cb, nt, ct, rfl, rfl, rfl, m1, m2, ⟨Ar, kr, rfl, hr1, hr2, hr3⟩, ⟨Al, kl, rfl, g1, g2, hL⟩, ⟨Ak, kk, rfl, hk1, hk2, hk3⟩⟩ := id hF
  have HF := Lib.hid (fun c (hc : Le w.cell? c) => hF.mono hc)
  have ha1 : 0 ≤ a1 ∧ a1 ≤ 65535 := by simpa [Lit.wf, IntKind.min, IntKind.max, IntKind.signed, IntKind.bits] using hw1
  have ha2 : 0 ≤ a2 ∧ a2 ≤ 65535 := by simpa [Lit.wf, IntKind.min, IntKind.max, IntKind.signed, IntKind.bits] using hw2
  obtain ⟨n1, rfl⟩ := Int.eq_ofNat_of_zero_le ha1.1
  obtain ⟨n2, rfl⟩ := Int.eq_ofNat_of_zero_le ha2.1
  have hn1 : n1 ≤ 65535 := by omega
  have hn2 : n2 ≤ 65535 := by omega
  clear hF hr3 hL hk3 ha1 ha2 hw1 hw2
  obtain ⟨i0, hi0, hz0, hz1, hz2⟩ := info_parts Tryz.info3
  go_enter Tryz.func5, Tryz.ntmps5
  go_wp2_with fail
  obtain ⟨FC, hFC⟩ : ∃ FC : Array Value, FC = #[.string F.name, .int .i64 mo, .int .i64 pa, .slice Ab nb cb, .int .i64 ar, .int .i64 F.result.kind, .int .i64 F.result.id, .slice Ar F.result.args.length kr, .slice Al F.locals.length kl, .slice Ak F.blocks.length kk, .slice At nt ct] := ⟨_, rfl⟩
  obtain ⟨bF, hbF⟩ : ∃ bF, bF = w.heap.size := ⟨_, rfl⟩
  rw [← hbF]
  generalize hW : World.alloc _ _ = W
  have HB0 : Hid (Below w.heap.size w W) := by rw [← hW]; exact Bl.alloc (Below.refl _ _) _
  have HBF0 : Hid (Bx W bF 29 FC) := by
    show Bx _ _ _ _
    rw [← hW, hFC]
    exact Bx.at0 _ _ _ hbF
  have HFC := Lib.hid hFC
  clear hW hbF hFC
  refine (head_any W).mono ?_
  rintro e w1 ⟨rfl, hb1⟩
  have HB1 := Lib.hid (Bl.call HB0.out hb1)
  have HBF1 := Lib.hid (HBF0.out.below hb1)
  clear hb1 HB0 HBF0
  have cF := HBF1.out.cell
  rw [HFC.out] at cF
  go_wp2_with fail
  refine (points_big _ F w1 (HF.out _ (Bl.le HB1.out)) hsm).mono ?_
  rintro e w2 ⟨⟨vp, rfl, hvp⟩, hb2⟩
  have HB2 := Lib.hid (Bl.call HB1.out hb2)
  have HBF2 := Lib.hid (HBF1.out.below hb2)
  obtain ⟨XP, kP, rfl, xp1, xp2, xp3⟩ := hvp
  have HXP := Lib.hid xp3
  clear hb2 HB1 HBF1 cF xp1 xp2 xp3
  have cF := HBF2.out.cell
  rw [HFC.out] at cF
  obtain ⟨np, hnp⟩ : ∃ np, np = (pts F).length := ⟨_, rfl⟩
  rw [← hnp] at hsm ⊢
  have HNP := Lib.hid hnp
  clear hnp
  go_wp2_with fail
  refine (tiny_any _ F w2 (HF.out _ (Bl.le HB2.out))).mono ?_
  rintro e w3 ⟨⟨bt, rfl, hty⟩, hb3⟩
  have HB3 := Lib.hid (Bl.call HB2.out hb3)
  have HBF3 := Lib.hid (HBF2.out.below hb3)
  have HXP3 := Lib.hid (HXP.out.mono monoPt (Bl.le hb3))
  clear hb3 HB2 HBF2 HXP cF
  have cF := HBF3.out.cell
  rw [HFC.out] at cF
  cases bt with
  | false =>
    go_wp2_with fail
    go_ret
    exact ⟨rfl, HB3.out⟩
  | true =>
    have HS := Lib.hid (hty rfl).szd
    clear hty
    by_cases hnp0 : np = 0
    · subst hnp0
      go_wp2_with fail
      go_ret
      exact ⟨rfl, HB3.out⟩
    by_cases hnl0 : F.locals.length = 0
    · have e0 : ((F.locals.length : Nat) : Int) = 0 := by omega
      rw [hnl0] at cF
      go_wp2_with fail
      go_ret
      exact ⟨rfl, HB3.out⟩
    have hnpi : ((np : Int) == 0) = false := by simpa using hnp0
    have hnli : ((F.locals.length : Int) == 0) = false := by simpa using hnl0
    go_wp2_with fail
    refine (before_any _ F w3 (HF.out _ (Bl.le HB3.out)) HS.out).mono ?_
    rintro e w4 ⟨⟨vb, rfl, hvb⟩, hb4⟩
    have HVB := Lib.hid hvb
    have HB4 := Lib.hid (Bl.call HB3.out hb4)
    have HBF4 := Lib.hid (HBF3.out.below hb4)
    have HXP4 := Lib.hid (HXP3.out.mono monoPt (Bl.le hb4))
    clear hvb hb4 HB3 HBF3 HXP3 cF
    have cF := HBF4.out.cell
    rw [HFC.out] at cF
    go_wp2_with fail
    refine (sized_true _ vb F (before F) w4 (HF.out _ (Bl.le HB4.out)) HS.out HVB.out before_rows (before_len F)).mono ?_
    rintro e w5 ⟨rfl, hb5⟩
    have HVB5 := Lib.hid (HVB.out.mono monoSets (Bl.le hb5))
    have HB5 := Lib.hid (Bl.call HB4.out hb5)
    have HBF5 := Lib.hid (HBF4.out.below hb5)
    have HXP5 := Lib.hid (HXP4.out.mono monoPt (Bl.le hb5))
    clear hb5 HB4 HBF4 HVB HXP4 cF
    have cF := HBF5.out.cell
    rw [HFC.out] at cF
    go_upto_region 10 with fail
    have e1 : (n1 : Int) % (np : Int) = ((n1 % np : Nat) : Int) := by simp
    have e2 : (n2 : Int) % (F.locals.length : Int) = ((n2 % F.locals.length : Nat) : Int) := by simp
    rw [e1, e2]
    obtain ⟨fi, hfi⟩ : ∃ fi, fi = n1 % np := ⟨_, rfl⟩
    obtain ⟨vv, hvv⟩ : ∃ vv, vv = n2 % F.locals.length := ⟨_, rfl⟩
    rw [← hfi, ← hvv]
    have hfl : fi < np := by rw [hfi]; exact Nat.mod_lt _ (by omega)
    have hvl : vv < F.locals.length := by rw [hvv]; exact Nat.mod_lt _ (by omega)
    clear e1 e2 hfi hvv hnpi hnli
    have hnb : np ≤ 1000 := by
      have h1 := offs_le F HS.out F.blocks.length (Nat.le_refl _)
      have h2 := HS.out.blocks
      rw [HNP.out, pts_len]
      omega
    have e38 := Tryz.mk38 np (by omega)
    obtain ⟨XB, kB, rfl, xb1, xb2, xb3⟩ := HVB5.out
    have HXB := Lib.hid xb3
    clear xb3 xb1 xb2 HVB5 hsm
    go_wp2_with fail
    obtain ⟨bS, hbS⟩ : ∃ bS, bS = w5.heap.size := ⟨_, rfl⟩
    obtain ⟨bT, hbT⟩ : ∃ bT, bT = bS + 1 := ⟨_, rfl⟩
    rw [← hbS, ← hbT]
    generalize hW6 : World.alloc _ _ = W6
    have HRel : Hid (PRel F w w5 FC bF bS np vv fi (.slice (some ⟨bT, 0, none⟩) 1 1) (.bool false) (.int .i64 0) W6 (100 * uns (fun _ => false) np + (1 - 0))) := by
      refine ⟨fun _ => false, [fi], 0, false, rfl, rfl, PI.start (by rw [← HNP.out]; exact hfl), rfl, ?_, ?_, ?_, ?_, ?_, ?_⟩
      · have := uns_le (fun _ => false) np
        simp
        omega
      · rw [← hW6]; exact Bl.alloc (Bl.alloc HB5.out _) _
      · rw [← hW6]; exact Bl.alloc (Bl.alloc (Below.refl _ _) _) _
      · rw [← hW6]; exact (HBF5.out.alloc _).alloc _
      · rw [← hW6]; exact (Bx.at0 _ _ _ hbS).alloc _
      · rw [← hW6]
        have h1 := own_int1 (w5.alloc (.cells (tabA np fun _ => .bool false) 4)) (fi : Int)
        have e : (w5.alloc (.cells (tabA np fun _ => .bool false) 4)).heap.size = bT := by rw [hbT, hbS]; simp
        rw [e] at h1
        exact own_base h1 (by omega)
    have HB5s := Lib.hid HB5.out.size
    have hbS5 : w5.heap.size ≤ bS := by omega
    have hbS2 : w.heap.size ≤ bS := Nat.le_trans HB5.out.size hbS5
    have hne : bF ≠ bS := by have := HBF5.out.lt; omega
    clear hW6 hbS hbT HB5 HBF5 cF e38
    go_loopw [13, 14, 15] (fun t g i wr => ∃ n, PRel F w w5 FC bF bS np vv fi t g i wr n) (fun t g i wr => leastOf fun n => PRel F w w5 FC bF bS np vv fi t g i wr n)
    case atStart => exact ⟨_, HRel.out⟩
    case round =>
      clear HRel
      obtain ⟨n0, hn0⟩ := hrel
      have hI := (leastOf_spec (p := fun n => PRel F w w5 FC bF bS np vv fi u13 u14 u15 wr n) hn0).1
      clear hn0 n0
      obtain ⟨S, T, k, want, hg, hi, HP, hn, hTl, HB, HC, HBF, HBS, HT⟩ := hI
      subst hg hi
      have HN := Lib.hid hn
      clear hn
      obtain ⟨At0, kt0, rfl⟩ := own_shp HT.out
      have hTb : T.length ≤ 20001 := by omega
      have HEND : liveB F (ptOf F fi) vv = want → want = true ∨ k = T.length → True := fun _ _ => trivial
      clear HEND
      have hres : want = true ∨ k = T.length → ((before F).getD fi []).getD vv false = want := fun h => by
        rw [before_at (by rw [← HNP.out]; exact hfl) hvl]
        exact HP.result h
      have HRES := Lib.hid hres
      clear hres
      by_cases hwk : want = true ∨ k = T.length
      · have hr := HRES.out hwk
        obtain ⟨ab, vs, rfl, cb, hvs⟩ := (RRow.mono monoSets (Bl.le HC.out) HXB.out).set_at fi (by rw [before_len, ← HNP.out]; exact hfl)
        obtain ⟨As, ks, rfl, _, _, s3⟩ := hvs
        have hsl : ((before F).getD fi []).length = F.locals.length := before_rows _ (by rw [List.getD_eq_getElem?_getD, List.getElem?_eq_getElem (by rw [before_len, ← HNP.out]; exact hfl)]; exact List.getElem_mem _)
        rw [hsl] at cb
        obtain ⟨asp, rfl, cy⟩ := s3.bool_at' vv (by rw [hsl]; exact hvl)
        rw [hr] at cy
        have hfx : (fi : Int) < (np : Int) := by omega
        have hvx : (vv : Int) < (F.locals.length : Int) := by omega
        rw [before_len, ← HNP.out]
        clear hr s3 hsl HRES HP
        rcases hwk with rfl | rfl
        · by_cases hkT : (k : Int) < (T.length : Int)
          · go_wp2_with fail
            go_ret
            exact ⟨rfl, HB.out⟩
          · have hkT2 : (T.length : Int) ≤ (k : Int) := by omega
            go_wp2_with fail
            go_ret
            exact ⟨rfl, HB.out⟩
        · cases want
          all_goals
            go_wp2_with fail
            go_ret
            exact ⟨rfl, HB.out⟩
      · obtain rfl : want = false := by
          cases want with
          | false => rfl
          | true => exact absurd (.inl rfl) hwk
        have hkl : k < T.length := by
          have h1 := HP.le
          have h2 : k ≠ T.length := fun e => hwk (.inr e)
          omega
        clear hwk HRES
        have hkT : (k : Int) < (T.length : Int) := by omega
        obtain ⟨n, hTk⟩ : ∃ n, T[k]? = some n := ⟨T[k], List.getElem?_eq_getElem hkl⟩
        obtain ⟨g0, cap0, et, cT⟩ := own_nts HT.out hTk
        simp only [Value.slice.injEq] at et
        obtain ⟨rfl, _, rfl⟩ := et
        have hnp' : n < np := by have := HP.lt n (List.mem_of_getElem? hTk); rw [HNP.out]; exact this
        have hni : (n : Int) < (np : Int) := by omega
        have cS : wr.cell? ⟨bS, n, none⟩ = some (.bool (S n)) := by rw [HBS.out.cell, tabA_get hnp']
        have fS := HBS.out.frozen n
        have ltS := HBS.out.lt
        have HPI := Lib.hid HP
        have HTK := Lib.hid hTk
        clear HP hTk
        obtain ⟨sn, hsn⟩ : ∃ sn, sn = S n := ⟨_, rfl⟩
        rw [← hsn] at cS
        have HSN := Lib.hid hsn
        clear hsn
        cases sn with
        | true =>
          have HNEW : Hid (PRel F w w5 FC bF bS np vv fi (.slice (some ⟨g0, 0, none⟩) T.length kt0) (.bool false) (.int .i64 ((k : Int) + 1)) wr (100 * uns S np + (T.length - (k + 1)))) :=
            ⟨S, T, k + 1, false, rfl, by simp, HPI.out.skip HTK.out HSN.out.symm, rfl, hTl, HB, HC, HBF, HBS, HT⟩
          clear HB HC HBF HBS HT
          go_wp2_with fail
          go_roundw
          case rel => exact ⟨_, HNEW.out⟩
          case measure =>
            have h1 := HNEW.out
            refine Nat.lt_of_le_of_lt ((leastOf_spec (p := fun n => PRel F w w5 FC bF bS np vv fi _ _ _ _ n) h1).2 _ h1) ?_
            have h2 : 100 * uns S np + (T.length - (k + 1)) < 100 * uns S np + (T.length - k) := by omega
            rw [← HN.out] at h2
            exact h2
        | false =>
          go_upto_region 19 with fail
          generalize hWr1 : World.setCell _ _ _ = wr1
          have hgr : wr.grownBy wr1 (some bS) := by
            rw [← hWr1]
            exact ⟨rfl, rfl, rfl, by simp [World.setCell], fun k _ hk => Below.heap_setCell _ _ _ _ (fun e => hk (by rw [e]))⟩
          have HB1 : Hid (Below w.heap.size w wr1) := by rw [← hWr1]; exact Bl.set HB.out hbS2 _
          have HC1 : Hid (Below w5.heap.size w5 wr1) := by rw [← hWr1]; exact Bl.set HC.out hbS5 _
          have HBF1 : Hid (Bx wr1 bF 29 FC) := by rw [← hWr1]; exact HBF.out.far (by simpa using hne) _
          have HT1 : Hid (wr1.ownsRow w5.heap.size 3 1 (.slice (some ⟨g0, 0, none⟩) T.length kt0) T.length (nts T)) := HT.out.kept hgr (.inr (fun e => HBS.out.not_row HT.out (by decide) e.symm))
          have HBS1 : Hid (Bx wr1 bS 4 (tabA np fun m => .bool (setS S n m))) := by
            have h1 := HBS.out.set n (.bool true)
            rw [hWr1, tabA_set, tabA_congr (g := fun m => .bool (setS S n m)) (fun j hj => by unfold setS; split <;> rfl)] at h1
            exact h1
          have hun := uns_set S n HSN.out.symm np hnp'
          have hT20 : T.length + 20 + 20 * uns (setS S n) np ≤ 20 * np + 1 := by omega
          have HUN := Lib.hid hun
          clear hWr1 hgr HB HC HBF HBS HT cS fS ltS cT hun
          have hqn : n < (pts F).length := by rw [← HNP.out]; exact hnp'
          obtain ⟨ap, rfl, c0, c1⟩ := (RRow.mono monoPt (Bl.le HC1.out) HXP5.out).pt_at n hqn
          have hp := pts_at hqn
          obtain ⟨p1, p2, hpe⟩ : ∃ p1 p2, (pts F).getD n (0, 0) = (p1, p2) := ⟨_, _, rfl⟩
          have hpt : ptOf F n = (p1, p2) := hpe
          rw [hpe] at c0 c1 hp
          simp only at c0 c1
          have hp2 : p2 < 1000 := by
            have h1 := HS.out.code _ (getD_mem hp.1)
            have h2 := hp.2
            unfold Fn.blk at h2
            simp only at h2 h1
            omega
          have HPT := Lib.hid hp
          have HPE := Lib.hid hpt
          have hcF := HBF1.out.cell
          rw [HFC.out] at hcF
          clear hp hpe hpt
          refine region_anyS (S := (fun w'' : World => (∀ j, w''.cell? ⟨bF, j, none⟩ = (#[.string F.name, .int .i64 mo, .int .i64 pa, .slice Ab nb cb, .int .i64 ar, .int .i64 F.result.kind, .int .i64 F.result.id, .slice Ar F.result.args.length kr, .slice Al F.locals.length kl, .slice Ak F.blocks.length kk, .slice At nt ct] : Array Value)[j]?) ∧ w''.cell? (ap.add (n * 2)) = some (.int .i64 (p1 : Nat)) ∧ w''.cell? ⟨(ap.add (n * 2)).block, (ap.add (n * 2)).off + 1, none⟩ = some (.int .i64 (p2 : Nat)))) ?_
          have hSd : (fun w'' : World => (∀ j, w''.cell? ⟨bF, j, none⟩ = (#[.string F.name, .int .i64 mo, .int .i64 pa, .slice Ab nb cb, .int .i64 ar, .int .i64 F.result.kind, .int .i64 F.result.id, .slice Ar F.result.args.length kr, .slice Al F.locals.length kl, .slice Ak F.blocks.length kk, .slice At nt ct] : Array Value)[j]?) ∧ w''.cell? (ap.add (n * 2)) = some (.int .i64 (p1 : Nat)) ∧ w''.cell? ⟨(ap.add (n * 2)).block, (ap.add (n * 2)).off + 1, none⟩ = some (.int .i64 (p2 : Nat))) wr1.drew := ⟨hcF, c0, c1⟩
          (refine AnyS.takeD (i := 0) 81 (v := ?_) (by kernel_rfl) rfl rfl (by kernel_rfl) (by kernel_rfl) (by kernel_rfl) (fun _ _ _ h => h) (by assumption) ⟨⟨by kernel_rfl, ?_⟩, fun _ => rfl⟩ ?_; rotate_left; (rintro w' ⟨hs1, hs2, hs3⟩; go_simp; rfl))
          (refine AnyS.takeD (i := 1) 82 (v := ?_) (by kernel_rfl) rfl rfl (by kernel_rfl) (by kernel_rfl) (by kernel_rfl) (fun _ _ _ h => h) (by assumption) ⟨⟨by kernel_rfl, ?_⟩, fun _ => rfl⟩ ?_; rotate_left; (rintro w' ⟨hs1, hs2, hs3⟩; go_simp; rfl))
          (refine AnyS.takeD (i := 2) 83 (v := ?_) (by kernel_rfl) rfl rfl (by kernel_rfl) (by kernel_rfl) (by kernel_rfl) (fun _ _ _ h => h) (by assumption) ⟨⟨by kernel_rfl, ?_⟩, fun _ => rfl⟩ ?_; rotate_left; (rintro w' ⟨hs1, hs2, hs3⟩; go_simp; rfl))
          (refine AnyS.takeD (i := 3) 84 (v := ?_) (by kernel_rfl) rfl rfl (by kernel_rfl) (by kernel_rfl) (by kernel_rfl) (fun _ _ _ h => h) (by assumption) ⟨⟨by kernel_rfl, ?_⟩, fun _ => rfl⟩ ?_; rotate_left; (rintro w' ⟨hs1, hs2, hs3⟩; go_simp; rfl))
          (refine AnyS.takeD (i := 4) 85 (v := ?_) (by kernel_rfl) rfl rfl (by kernel_rfl) (by kernel_rfl) (by kernel_rfl) (fun _ _ _ h => h) (by assumption) ⟨⟨by kernel_rfl, ?_⟩, fun _ => rfl⟩ ?_; rotate_left; (rintro w' ⟨hs1, hs2, hs3⟩; go_simp; rfl))
          refine AnyS.atAlloc (i := 5) (j := 6) (k := 7) (us := at_ F (p1, p2)) (args := #[.agg #[.string F.name, .int .i64 mo, .int .i64 pa, .slice Ab nb cb, .int .i64 ar, .int .i64 F.result.kind, .int .i64 F.result.id, .slice Ar F.result.args.length kr, .slice Al F.locals.length kl, .slice Ak F.blocks.length kk, .slice At nt ct], .agg #[.int .i64 (p1 : Nat), .int .i64 (p2 : Nat)]]) 86 17 rfl rfl rfl (fun _ => rfl) (fun _ => rfl) (fun _ => rfl) (by intro c h; cases h) (by intro c h; cases h) (by intro c h; cases h) rfl rfl rfl (by decide)
            (by kernel_rfl) (by kernel_rfl) (by kernel_rfl) (by kernel_rfl) (by kernel_rfl) (by kernel_rfl) (by kernel_rfl) ?ci ?ci' ?cj ?cj' ?ck ?hcall ?hS ?hQ
          case ci => intro w''; go_simp
          case ci' => intro p w''; go_simp
          case cj => intro w''; go_simp; rfl
          case cj' => intro u w''; go_simp; rfl
          case ck => intro b A0 n0 k0 A1 n1 k1 A2 n2 k2 A3 n3 k3 A4 n4 k4 w'' h1 h2; unfold nilS at h1; go_simp
          case hcall => exact fun w' hb' => at_any _ F p1 p2 w' (HF.out _ (Bl.le (Bl.call (Bl.drew HB1.out) hb'))) HS.out HPT.out.1 hp2
          case hS =>
            intro w' hb'
            have hb'' : Below wr1.heap.size wr1 w' := Bl.call (Bl.drew (Below.refl _ _)) hb'
            have h3 := (HBF1.out.below hb'').cell
            rw [HFC.out] at h3
            exact ⟨h3, Bl.le hb'' _ _ c0, Bl.le hb'' _ _ c1⟩
          case hQ =>
            intro bu A0 k0 A1 k1 A2 k2 A3 k3 A4 k4 w9 hb9 hbu hx hu
            have hb9' : Below wr1.heap.size wr1 w9 := Bl.call (Bl.drew (Below.refl _ _)) hb9
            have HB9 := Lib.hid (Bl.call HB1.out hb9')
            have HC9 := Lib.hid (Bl.call HC1.out hb9')
            have HBF9 := Lib.hid (HBF1.out.below hb9')
            have HBS9 := Lib.hid (HBS1.out.below hb9')
            have HT9 := Lib.hid (own_below HT1.out hb9')
            have HX9 := Lib.hid hx
            have HU9 := Lib.hid (hu.mono (look_le _ _))
            have d0 := Bl.le hb9' _ _ c0
            have d1 := Bl.le hb9' _ _ c1
            obtain ⟨us, hus⟩ : ∃ us, us = at_ F (p1, p2) := ⟨_, rfl⟩
            rw [← hus] at HX9 HU9 ⊢
            have HUS := Lib.hid hus
            clear hSd hcF hb9 hb9' hx hu c0 c1 HB1 HC1 HBF1 HBS1 HT1 hbu hus
            have cX := HX9.out.cell
            go_wp2_with fail
            clear cX
            refine (used_any _ us vv w9 HU9.out).mono ?_
            rintro e w10 ⟨rfl, hb10⟩
            have HB10 := Lib.hid (Bl.call HB9.out hb10)
            have HC10 := Lib.hid (Bl.call HC9.out hb10)
            have HBF10 := Lib.hid (HBF9.out.below hb10)
            have HBS10 := Lib.hid (HBS9.out.below hb10)
            have HT10 := Lib.hid (own_below HT9.out hb10)
            have HU10 := Lib.hid (HU9.out.mono (Bl.le hb10))
            have e0 := Bl.le hb10 _ _ d0
            have e1 := Bl.le hb10 _ _ d1
            have cX := (HX9.out.below hb10).cell
            clear hb10 HB9 HC9 HBF9 HBS9 HT9 HU9 HX9 d0 d1
            go_wp2_with fail
            clear cX
            refine (has_any _ us.defs vv w10 (RUs.defs2 HU10.out)).mono ?_
            rintro e w11 ⟨rfl, rfl⟩
            obtain ⟨su, hsu⟩ : ∃ su, su = us.used vv := ⟨_, rfl⟩
            obtain ⟨sd, hsd⟩ : ∃ sd, sd = us.defd vv := ⟨_, rfl⟩
            have hsd' : decide ((vv : Int) ∈ us.defs) = sd := hsd.symm
            rw [hsd', ← hsu]
            have hsu2 : (at_ F (ptOf F n)).used vv = su := by rw [HPE.out, ← HUS.out, hsu]
            have hsd2 : (at_ F (ptOf F n)).defd vv = sd := by rw [HPE.out, ← HUS.out, hsd]
            have HSU := Lib.hid hsu2
            have HSD := Lib.hid hsd2
            clear hsu hsd hsd' hsu2 hsd2 HU10
            cases sd with
            | true =>
              have HNEW : Hid (PRel F w w5 FC bF bS np vv fi (.slice (some ⟨g0, 0, none⟩) T.length kt0) (.bool su) (.int .i64 ((k : Int) + 1)) w11 (100 * uns (setS S n) np + (T.length - (k + 1)))) := by
                refine ⟨setS S n, T, k + 1, su, rfl, by simp, ?_, rfl, by omega, HB10, HC10, HBF10, HBS10, HT10⟩
                cases su with
                | true => exact HPI.out.used HTK.out HSU.out (fun q hq => .inl hq) (fun q hq => hq) _ (by omega)
                | false => exact HPI.out.defd HTK.out HSU.out HSD.out
              clear HB10 HC10 HBF10 HBS10 HT10 e0 e1
              go_wp2_with fail
              go_roundw
              case rel => exact ⟨_, HNEW.out⟩
              case measure =>
                have h1 := HNEW.out
                refine Nat.lt_of_le_of_lt ((leastOf_spec (p := fun n => PRel F w w5 FC bF bS np vv fi _ _ _ _ n) h1).2 _ h1) ?_
                have h2 : 100 * uns (setS S n) np + (T.length - (k + 1)) < 100 * uns S np + (T.length - k) := by have := HUN.out; omega
                rw [← HN.out] at h2
                exact h2
            | false =>
              have hcF := HBF10.out.cell
              rw [HFC.out] at hcF
              go_upto_region 22 with fail
              refine region_anyS (S := (fun w'' : World => (∀ j, w''.cell? ⟨bF, j, none⟩ = (#[.string F.name, .int .i64 mo, .int .i64 pa, .slice Ab nb cb, .int .i64 ar, .int .i64 F.result.kind, .int .i64 F.result.id, .slice Ar F.result.args.length kr, .slice Al F.locals.length kl, .slice Ak F.blocks.length kk, .slice At nt ct] : Array Value)[j]?) ∧ w''.cell? (ap.add (n * 2)) = some (.int .i64 (p1 : Nat)) ∧ w''.cell? ⟨(ap.add (n * 2)).block, (ap.add (n * 2)).off + 1, none⟩ = some (.int .i64 (p2 : Nat)))) ?_
              have hSd : (fun w'' : World => (∀ j, w''.cell? ⟨bF, j, none⟩ = (#[.string F.name, .int .i64 mo, .int .i64 pa, .slice Ab nb cb, .int .i64 ar, .int .i64 F.result.kind, .int .i64 F.result.id, .slice Ar F.result.args.length kr, .slice Al F.locals.length kl, .slice Ak F.blocks.length kk, .slice At nt ct] : Array Value)[j]?) ∧ w''.cell? (ap.add (n * 2)) = some (.int .i64 (p1 : Nat)) ∧ w''.cell? ⟨(ap.add (n * 2)).block, (ap.add (n * 2)).off + 1, none⟩ = some (.int .i64 (p2 : Nat))) w11.drew := ⟨hcF, e0, e1⟩
              (refine AnyS.takeD (i := 0) 94 (v := ?_) (by kernel_rfl) rfl rfl (by kernel_rfl) (by kernel_rfl) (by kernel_rfl) (fun _ _ _ h => h) (by assumption) ⟨⟨by kernel_rfl, ?_⟩, fun _ => rfl⟩ ?_; rotate_left; (rintro w' ⟨hs1, hs2, hs3⟩; go_simp; rfl))
              (refine AnyS.takeD (i := 1) 95 (v := ?_) (by kernel_rfl) rfl rfl (by kernel_rfl) (by kernel_rfl) (by kernel_rfl) (fun _ _ _ h => h) (by assumption) ⟨⟨by kernel_rfl, ?_⟩, fun _ => rfl⟩ ?_; rotate_left; (rintro w' ⟨hs1, hs2, hs3⟩; go_simp; rfl))
              (refine AnyS.takeD (i := 2) 96 (v := ?_) (by kernel_rfl) rfl rfl (by kernel_rfl) (by kernel_rfl) (by kernel_rfl) (fun _ _ _ h => h) (by assumption) ⟨⟨by kernel_rfl, ?_⟩, fun _ => rfl⟩ ?_; rotate_left; (rintro w' ⟨hs1, hs2, hs3⟩; go_simp; rfl))
              (refine AnyS.takeD (i := 3) 97 (v := ?_) (by kernel_rfl) rfl rfl (by kernel_rfl) (by kernel_rfl) (by kernel_rfl) (fun _ _ _ h => h) (by assumption) ⟨⟨by kernel_rfl, ?_⟩, fun _ => rfl⟩ ?_; rotate_left; (rintro w' ⟨hs1, hs2, hs3⟩; go_simp; rfl))
              (refine AnyS.takeD (i := 4) 98 (v := ?_) (by kernel_rfl) rfl rfl (by kernel_rfl) (by kernel_rfl) (by kernel_rfl) (fun _ _ _ h => h) (by assumption) ⟨⟨by kernel_rfl, ?_⟩, fun _ => rfl⟩ ?_; rotate_left; (rintro w' ⟨hs1, hs2, hs3⟩; go_simp; rfl))
              refine AnyS.enterD (i := 5) 99 (R := fun x w'' => w''.ownsRow 0 43 2 x (next F (p1, p2)).length (ptc (next F (p1, p2))) ∧ Below w11.drew.heap.size w11.drew w'') (by kernel_rfl) rfl rfl (by kernel_rfl) (fun c hc => by cases hc) (by go_simp) ((next_own _ F p1 p2 w11.drew (HF.out _ (Bl.le (Bl.drew HB10.out))) HS.out HPT.out.1 HPT.out.2).mono ?_) ?_
              · rintro e w' ⟨⟨vp, rfl, hv⟩, hb⟩
                exact ⟨_, rfl, hv, hb⟩
              rintro vn w12 ⟨hvn, hb12⟩
              have hb12' : Below w11.heap.size w11 w12 := Bl.call (Bl.drew (Below.refl _ _)) hb12
              have hS12 : (fun w'' : World => (∀ j, w''.cell? ⟨bF, j, none⟩ = (#[.string F.name, .int .i64 mo, .int .i64 pa, .slice Ab nb cb, .int .i64 ar, .int .i64 F.result.kind, .int .i64 F.result.id, .slice Ar F.result.args.length kr, .slice Al F.locals.length kl, .slice Ak F.blocks.length kk, .slice At nt ct] : Array Value)[j]?) ∧ w''.cell? (ap.add (n * 2)) = some (.int .i64 (p1 : Nat)) ∧ w''.cell? ⟨(ap.add (n * 2)).block, (ap.add (n * 2)).off + 1, none⟩ = some (.int .i64 (p2 : Nat))) w12 := by
                refine ⟨?_, Bl.le hb12' _ _ e0, Bl.le hb12' _ _ e1⟩
                have h := (HBF10.out.below hb12').cell
                rwa [HFC.out] at h
              refine ⟨hS12, ?_⟩
              have HB12 := Lib.hid (Bl.call HB10.out hb12')
              have HC12 := Lib.hid (Bl.call HC10.out hb12')
              have HBF12 := Lib.hid (HBF10.out.below hb12')
              have HBS12 := Lib.hid (HBS10.out.below hb12')
              have HT12 := Lib.hid (own_below HT10.out hb12')
              obtain ⟨l, hl⟩ : ∃ l, l = next F (p1, p2) := ⟨_, rfl⟩
              rw [← hl] at hvn
              have hll : l.length ≤ 20 := by rw [hl]; exact next_len HS.out HPT.out
              have HNX := Lib.hid (fun q (hq : q ∈ l) => next_pt HPT.out (hl ▸ hq))
              have HL := Lib.hid hl
              have hxn := RPts.of_own [g0] hvn (fun k hk => by
                rw [List.mem_singleton]
                intro e
                rw [e] at hk
                exact own_ne hvn HT12.out (by decide) hk rfl)
              clear hb12 hb12' hSd hcF HB10 HC10 HBF10 HBS10 HT10 e0 e1 hl hvn
              obtain ⟨XN, kN, rfl, xn1, xn2, xn3⟩ := hxn
              have HXN := Lib.hid xn3
              clear xn1 xn2 xn3
              (refine AnyS.takeD (i := 6) 18 (v := ?_) (by kernel_rfl) rfl rfl (by kernel_rfl) (by kernel_rfl) (by kernel_rfl) (fun _ _ _ h => h) (by assumption) ⟨⟨by kernel_rfl, ?_⟩, fun _ => rfl⟩ ?_; rotate_left; (rintro w' ⟨hs1, hs2, hs3⟩; go_simp; rfl))
              refine AnyS.done (by kernel_rfl) ?_ _
              clear hS12
              have HPP : Hid (∀ {T' : List Nat} {S' : Nat → Bool}, T' = T ++ l.map (idx F) → S' = setS S n → PI F vv fi S' T' (k + 1) su) := by
                intro T' S' hT' hS'
                subst hT' hS'
                have hlx : l = next F (ptOf F n) := by rw [HPE.out]; exact HL.out
                cases su with
                | true =>
                  refine HPI.out.used HTK.out HSU.out (fun q hq => ?_) (fun q hq => List.mem_append_left _ hq) _ (by rw [List.length_append]; omega)
                  rcases List.mem_append.1 hq with h1 | h1
                  · exact .inl h1
                  · obtain ⟨r, hr, rfl⟩ := List.mem_map.1 h1
                    have hrp := HNX.out r hr
                    refine .inr ⟨idx_lt hrp, fun hlv => HPI.out.live n (List.mem_of_getElem? HTK.out) ?_⟩
                    rw [ptOf_idx hrp] at hlv
                    exact .pass HSD.out (hlx ▸ hr) hlv
                | false =>
                  rw [hlx]
                  exact HPI.out.pass HTK.out HSU.out HSD.out
              go_wp2_with fail
              go_loopw [13, 19] (fun t i wr => ∃ (m : Nat), i = .int .i64 m ∧ m ≤ l.length ∧ Hid (wr.ownsRow w5.heap.size 3 1 t (T ++ (l.take m).map (idx F)).length (nts (T ++ (l.take m).map (idx F)))) ∧ Hid (∀ q, t.ownBlock = some q → q = g0 ∨ w12.heap.size ≤ q) ∧ Hid (Chg [g0] w12 wr) ∧ Hid (Below w.heap.size w wr) ∧ Hid (Below w5.heap.size w5 wr) ∧ Hid (Bx wr bF 29 FC) ∧ Hid (Bx wr bS 4 (tabA np fun m => .bool (setS S n m)))) (fun _ i _ => l.length - (intOf i).toNat)
              case atStart => exact ⟨0, rfl, Nat.zero_le _, by simpa using HT12, (fun q hq => by simp only [Value.ownBlock, Option.some.injEq] at hq; exact .inl hq.symm), Chg.refl _ _, HB12, HC12, HBF12, HBS12⟩
              case round =>
                clear HB12 HC12 HBF12 HBS12 HT12
                obtain ⟨m, rfl, hm, HT, HQ, HCh, HB, HC, HBF, HBS⟩ := hrel
                by_cases hml : m < l.length
                · have hmi : (m : Int) < (l.length : Int) := by omega
                  obtain ⟨aq, rfl, l0, l1⟩ := HXN.out.pt_at m hml
                  have hq : isPt F (l.getD m (0, 0)) := HNX.out _ (by rw [List.getD_eq_getElem?_getD, List.getElem?_eq_getElem hml]; exact List.getElem_mem hml)
                  obtain ⟨q1, q2, hqe⟩ : ∃ q1 q2, l.getD m (0, 0) = (q1, q2) := ⟨_, _, rfl⟩
                  rw [hqe] at l0 l1 hq
                  simp only at l0 l1
                  have c0 := Chg.le' HCh.out _ _ l0
                  have c1 := Chg.le' HCh.out _ _ l1
                  have HQP := Lib.hid hq
                  have HL0 := Lib.hid l0
                  have HL1 := Lib.hid l1
                  obtain ⟨T2, hT2⟩ : ∃ T2, T2 = T ++ (l.take m).map (idx F) := ⟨_, rfl⟩
                  have HTS : Hid (T ++ (l.take (m + 1)).map (idx F) = T2 ++ [q2 + offs F q1]) := by
                    show _ = _
                    rw [take_snoc _ _ (0, 0) hml, List.map_append, ← List.append_assoc, ← hT2, hqe]
                    rfl
                  have hT2l : T2.length ≤ 20021 := by
                    rw [hT2, List.length_append, List.length_map, List.length_take]
                    omega
                  rw [← hT2] at HT
                  obtain ⟨At2, kt2, rfl⟩ := own_shp HT.out
                  obtain ⟨ix, hix⟩ : ∃ ix, ix = q2 + offs F q1 := ⟨_, rfl⟩
                  rw [← hix] at HTS
                  have HIX := Lib.hid hix
                  have hcF := HBF.out.cell
                  rw [HFC.out] at hcF
                  clear hq hqe l0 l1 hT2 hix
                  go_upto_region 26 with fail
                  refine region_anyS (S := (fun w'' : World => (∀ j, w''.cell? ⟨bF, j, none⟩ = (#[.string F.name, .int .i64 mo, .int .i64 pa, .slice Ab nb cb, .int .i64 ar, .int .i64 F.result.kind, .int .i64 F.result.id, .slice Ar F.result.args.length kr, .slice Al F.locals.length kl, .slice Ak F.blocks.length kk, .slice At nt ct] : Array Value)[j]?) ∧ w''.cell? (aq.add (m * 2)) = some (.int .i64 (q1 : Nat)) ∧ w''.cell? ⟨(aq.add (m * 2)).block, (aq.add (m * 2)).off + 1, none⟩ = some (.int .i64 (q2 : Nat)))) ?_
                  have hSd : (fun w'' : World => (∀ j, w''.cell? ⟨bF, j, none⟩ = (#[.string F.name, .int .i64 mo, .int .i64 pa, .slice Ab nb cb, .int .i64 ar, .int .i64 F.result.kind, .int .i64 F.result.id, .slice Ar F.result.args.length kr, .slice Al F.locals.length kl, .slice Ak F.blocks.length kk, .slice At nt ct] : Array Value)[j]?) ∧ w''.cell? (aq.add (m * 2)) = some (.int .i64 (q1 : Nat)) ∧ w''.cell? ⟨(aq.add (m * 2)).block, (aq.add (m * 2)).off + 1, none⟩ = some (.int .i64 (q2 : Nat))) wr.drew := ⟨hcF, c0, c1⟩
                  (refine AnyS.takeD (i := 0) 106 (v := ?_) (by kernel_rfl) rfl rfl (by kernel_rfl) (by kernel_rfl) (by kernel_rfl) (fun _ _ _ h => h) (by assumption) ⟨⟨by kernel_rfl, ?_⟩, fun _ => rfl⟩ ?_; rotate_left; (rintro w' ⟨hs1, hs2, hs3⟩; go_simp; rfl))
                  (refine AnyS.takeD (i := 1) 107 (v := ?_) (by kernel_rfl) rfl rfl (by kernel_rfl) (by kernel_rfl) (by kernel_rfl) (fun _ _ _ h => h) (by assumption) ⟨⟨by kernel_rfl, ?_⟩, fun _ => rfl⟩ ?_; rotate_left; (rintro w' ⟨hs1, hs2, hs3⟩; go_simp; rfl))
                  (refine AnyS.takeD (i := 2) 108 (v := ?_) (by kernel_rfl) rfl rfl (by kernel_rfl) (by kernel_rfl) (by kernel_rfl) (fun _ _ _ h => h) (by assumption) ⟨⟨by kernel_rfl, ?_⟩, fun _ => rfl⟩ ?_; rotate_left; (rintro w' ⟨hs1, hs2, hs3⟩; go_simp; rfl))
                  (refine AnyS.takeD (i := 3) 109 (v := ?_) (by kernel_rfl) rfl rfl (by kernel_rfl) (by kernel_rfl) (by kernel_rfl) (fun _ _ _ h => h) (by assumption) ⟨⟨by kernel_rfl, ?_⟩, fun _ => rfl⟩ ?_; rotate_left; (rintro w' ⟨hs1, hs2, hs3⟩; go_simp; rfl))
                  (refine AnyS.takeD (i := 4) 110 (v := ?_) (by kernel_rfl) rfl rfl (by kernel_rfl) (by kernel_rfl) (by kernel_rfl) (fun _ _ _ h => h) (by assumption) ⟨⟨by kernel_rfl, ?_⟩, fun _ => rfl⟩ ?_; rotate_left; (rintro w' ⟨hs1, hs2, hs3⟩; go_simp; rfl))
                  (refine AnyS.takeD (i := 5) 111 (v := ?_) (by kernel_rfl) rfl rfl (by kernel_rfl) (by kernel_rfl) (by kernel_rfl) (fun _ _ _ h => h) (by assumption) ⟨⟨by kernel_rfl, ?_⟩, fun _ => rfl⟩ ?_; rotate_left; (rintro w' ⟨hs1, hs2, hs3⟩; go_simp; rfl))
                  refine AnyS.enterD (i := 6) 112 (R := fun x w'' => x = .int .i64 (ix : Int) ∧ Below wr.drew.heap.size wr.drew w'') (by kernel_rfl) rfl rfl (by kernel_rfl) (fun c hc => by cases hc) (by go_simp) ((index_any _ F q1 q2 wr.drew (HF.out _ (Bl.le (Bl.drew HB.out))) HS.out HQP.out.1 HQP.out.2).mono ?_) ?_
                  · rintro e w' ⟨rfl, hb⟩
                    exact ⟨_, rfl, by rw [HIX.out], hb⟩
                  rintro _ w13 ⟨rfl, hb13⟩
                  have hb13' : Below wr.heap.size wr w13 := Bl.call (Bl.drew (Below.refl _ _)) hb13
                  have hb14 : Below wr.heap.size wr (w13.alloc (.cells #[.int .i64 (ix : Int)] 3)) := Bl.alloc hb13' _
                  have hS13 : (fun w'' : World => (∀ j, w''.cell? ⟨bF, j, none⟩ = (#[.string F.name, .int .i64 mo, .int .i64 pa, .slice Ab nb cb, .int .i64 ar, .int .i64 F.result.kind, .int .i64 F.result.id, .slice Ar F.result.args.length kr, .slice Al F.locals.length kl, .slice Ak F.blocks.length kk, .slice At nt ct] : Array Value)[j]?) ∧ w''.cell? (aq.add (m * 2)) = some (.int .i64 (q1 : Nat)) ∧ w''.cell? ⟨(aq.add (m * 2)).block, (aq.add (m * 2)).off + 1, none⟩ = some (.int .i64 (q2 : Nat))) w13 := by
                    refine ⟨?_, Bl.le hb13' _ _ c0, Bl.le hb13' _ _ c1⟩
                    have h := (HBF.out.below hb13').cell
                    rwa [HFC.out] at h
                  refine ⟨hS13, ?_⟩
                  have hS14 : (fun w'' : World => (∀ j, w''.cell? ⟨bF, j, none⟩ = (#[.string F.name, .int .i64 mo, .int .i64 pa, .slice Ab nb cb, .int .i64 ar, .int .i64 F.result.kind, .int .i64 F.result.id, .slice Ar F.result.args.length kr, .slice Al F.locals.length kl, .slice Ak F.blocks.length kk, .slice At nt ct] : Array Value)[j]?) ∧ w''.cell? (aq.add (m * 2)) = some (.int .i64 (q1 : Nat)) ∧ w''.cell? ⟨(aq.add (m * 2)).block, (aq.add (m * 2)).off + 1, none⟩ = some (.int .i64 (q2 : Nat))) (w13.alloc (.cells #[.int .i64 (ix : Int)] 3)) := by
                    refine ⟨?_, Bl.le hb14 _ _ c0, Bl.le hb14 _ _ c1⟩
                    have h := (HBF.out.below hb14).cell
                    rwa [HFC.out] at h
                  refine AnyS.valueD (i := 7) 113 (v := .slice (some ⟨w13.heap.size, 0, none⟩) 1 1) (w' := w13.alloc (.cells #[.int .i64 (ix : Int)] 3)) (by kernel_rfl) rfl rfl (by kernel_rfl) (fun c hc => by cases hc) (by go_simp) ⟨hS14, ?_⟩
                  have hown := own_below HT.out hb14
                  refine AnyS.one (i := 8) (by kernel_rfl) ?_
                  refine wpOp_app rfl (fun _ => rfl) (.tmp 106) (.tmp 113) 27 rfl w5.heap.size 3 i0 (.int .i64 0) 1 8 Tryz.underlying27 hi0 hz0 hz1 hz2 rfl (by decide) _ _ _ (by kernel_rfl) hown ⟨w13.heap.size, 0, none⟩ 1 1 [_] (by kernel_rfl) rfl (cell_one_new _ _ _) (by simp [Value.oneCell']) (by unfold maxLen; omega) (by omega) (Nat.le_trans HC.out.size hb14.size) ?_
                  intro v' w15 hown15 hg15 hat15
                  have HT15 : Hid (w15.ownsRow w5.heap.size 3 1 v' (T2 ++ [ix]).length (nts (T2 ++ [ix]))) := by
                    show World.ownsRow _ _ _ _ _ _ _
                    rw [nts_snoc, List.length_append]
                    exact hown15
                  have hCh14 := HCh.out.call hb14
                  have HCh15 : Hid (Chg [g0] w12 w15) := hCh14.grow hg15 (fun q hq => by
                    rcases HQ.out q hq with h | h
                    · exact .inl (by rw [h]; simp)
                    · exact .inr h)
                  have HQ15 : Hid (∀ q, v'.ownBlock = some q → q = g0 ∨ w12.heap.size ≤ q) := fun q hq => by
                    rcases hat15 with h | h
                    · rw [h] at hq
                      exact HQ.out q hq
                    · rw [h] at hq
                      simp only [Option.some.injEq] at hq
                      have := hCh14.size
                      exact .inr (by omega)
                  have HB15 : Hid (Below w.heap.size w w15) := Bl.grown (Bl.call HB.out hb14) hg15 (fun q hq => Nat.le_trans HB5s.out (hown.lt q hq).1)
                  have HC15 : Hid (Below w5.heap.size w5 w15) := Bl.grown (Bl.call HC.out hb14) hg15 (fun q hq => (hown.lt q hq).1)
                  have HBF15 : Hid (Bx w15 bF 29 FC) := (HBF.out.below hb14).grown hg15 ((HBF.out.below hb14).not_row hown (by decide))
                  have HBS15 : Hid (Bx w15 bS 4 (tabA np fun m => .bool (setS S n m))) := (HBS.out.below hb14).grown hg15 ((HBS.out.below hb14).not_row hown (by decide))
                  have hS15 : (fun w'' : World => (∀ j, w''.cell? ⟨bF, j, none⟩ = (#[.string F.name, .int .i64 mo, .int .i64 pa, .slice Ab nb cb, .int .i64 ar, .int .i64 F.result.kind, .int .i64 F.result.id, .slice Ar F.result.args.length kr, .slice Al F.locals.length kl, .slice Ak F.blocks.length kk, .slice At nt ct] : Array Value)[j]?) ∧ w''.cell? (aq.add (m * 2)) = some (.int .i64 (q1 : Nat)) ∧ w''.cell? ⟨(aq.add (m * 2)).block, (aq.add (m * 2)).off + 1, none⟩ = some (.int .i64 (q2 : Nat))) w15 := by
                    refine ⟨?_, Chg.le' HCh15.out _ _ HL0.out, Chg.le' HCh15.out _ _ HL1.out⟩
                    have h := HBF15.out.cell
                    rwa [HFC.out] at h
                  refine ⟨hS15, ?_⟩
                  clear hS14 hS13 hSd hown hown15 hg15 hat15 hCh14 hb13 hb13' hb14 HT HQ HCh HB HC HBF HBS c0 c1 hcF
                  (refine AnyS.takeD (i := 9) 13 (v := ?_) (by kernel_rfl) rfl rfl (by kernel_rfl) (by kernel_rfl) (by kernel_rfl) (fun _ _ _ h => h) (by assumption) ⟨⟨by kernel_rfl, ?_⟩, fun _ => rfl⟩ ?_; rotate_left; (rintro w' ⟨hs1, hs2, hs3⟩; go_simp; rfl))
                  refine AnyS.done (by kernel_rfl) ?_ _
                  clear hS15
                  go_wp2_with fail
                  go_roundw
                  case rel => exact ⟨m + 1, by go_num, by omega, by rw [HTS.out]; exact HT15, HQ15, HCh15, HB15, HC15, HBF15, HBS15⟩
                  case measure => simp [intOf]; omega
                · obtain rfl : m = l.length := by omega
                  obtain ⟨T2, hT2⟩ : ∃ T2, T2 = T ++ l.map (idx F) := ⟨_, rfl⟩
                  have hT2l : T2.length = T.length + l.length := by rw [hT2]; simp
                  have ht := HT.out
                  rw [List.take_length, ← hT2] at ht
                  have HNEW : Hid (PRel F w w5 FC bF bS np vv fi u13 (.bool su) (.int .i64 ((k : Int) + 1)) wr (100 * uns (setS S n) np + (T2.length - (k + 1)))) :=
                    ⟨setS S n, T2, k + 1, su, rfl, by simp, HPP.out hT2 rfl, rfl, by omega, HB, HC, HBF, HBS, ht⟩
                  clear HT HQ HCh HB HC HBF HBS ht HPP hT2
                  go_wp2_with fail
                  go_roundw
                  case rel => exact ⟨_, HNEW.out⟩
                  case measure =>
                    have h1 := HNEW.out
                    refine Nat.lt_of_le_of_lt ((leastOf_spec (p := fun n => PRel F w w5 FC bF bS np vv fi _ _ _ _ n) h1).2 _ h1) ?_
                    have h2 : 100 * uns (setS S n) np + (T2.length - (k + 1)) < 100 * uns S np + (T.length - k) := by have := HUN.out; omega
                    rw [← HN.out] at h2
                    exact h2
end Go.Proofs.YtdkjkgokllmkmaaGreatDoor.Lv
