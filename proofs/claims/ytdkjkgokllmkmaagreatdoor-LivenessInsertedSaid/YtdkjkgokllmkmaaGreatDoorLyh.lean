/- Walks: Inserted of the reference. -/
import Derived.Test.YtdkjkgokllmkmaaGreatDoorLyg
import Derived.Test.YtdkjkgokllmkmaaGreatDoorLye
import Derived.Test.YtdkjkgokllmkmaaGreatDoorLxq
import Derived.Test.YtdkjkgokllmkmaaGreatDoorLxr
namespace Go.Proofs.YtdkjkgokllmkmaaGreatDoor.Lv
open Go.RowKit
set_option linter.unusedVariables false
set_option linter.unusedSimpArgs false
theorem rsl_box {α : Type} {K : Lk → α → List Value → Prop} {sz : Nat} (hs : 0 < sz) {w : World} {g e n cap : Nat} {cs : Array Value} {xs : List α} {L : List (List Value)} (hb : Bx w g e cs) (hL : L.length = xs.length) (hl : ∀ es, es ∈ L → es.length = sz)
    (hK : ∀ (j : Nat) (x : α) (es : List Value), xs[j]? = some x → L[j]? = some es → K w.cell? x es) (hcs : ∀ (j : Nat) (u : Value), L.flatten[j]? = some u → cs[j]? = some u) (hn : n = xs.length) (h1 : n ≤ cap) (h2 : cap ≤ maxLen) : RSl K sz w.cell? (.slice (some ⟨g, 0, none⟩) n cap) xs := by
  subst hn
  refine ⟨_, cap, rfl, h1, h2, fun j x hj => ?_⟩
  have hjl := (List.getElem?_eq_some_iff.1 hj).1
  have hje := List.getElem?_eq_getElem (l := L) (i := j) (by omega)
  refine ⟨_, L[j], rfl, hl _ (List.getElem_mem _), hK j x _ hj hje, fun i u hu => ?_⟩
  have hi : i < sz := by
    have := (List.getElem?_eq_some_iff.1 hu).1
    rw [hl _ (List.getElem_mem _)] at this
    exact this
  rw [Addr.add_lit, Nat.zero_add, hb.cell]
  exact hcs _ _ (by rw [flat_get L hl j i _ hje hi]; exact hu)
theorem blk_one {c : Lk} {x : Blk} {es : List Value} (h : KBlk c x es) : ∀ u ∈ es, u.oneCell' = true := by
  obtain ⟨vc, vt, rfl, ⟨_, _, rfl, _⟩, ⟨_, _, rfl, _⟩⟩ := h
  intro u hu
  simp only [List.mem_cons, List.not_mem_nil, or_false] at hu
  rcases hu with rfl | rfl | rfl | rfl <;> rfl
theorem ins_one {c : Lk} {x : Ins} {es : List Value} (h : KIns c x es) : ∀ u ∈ es, u.oneCell' = true := by
  obtain ⟨vc, vt, rfl, ⟨_, _, rfl, _⟩, ⟨_, _, rfl, _⟩⟩ := h
  intro u hu
  simp only [List.mem_cons, List.not_mem_nil, or_false] at hu
  rcases hu with rfl | rfl | rfl | rfl | rfl | rfl | rfl <;> rfl
theorem Tryz.info66 : (Tryz.prog.info? 66).map (fun i => (i.zero, i.size, i.bytes)) = some (some (.agg #[.slice none 0 0, .int .i64 0, .int .i64 0, .slice none 0 0]), 4, 64) := by kernel_rfl
theorem Tryz.info55 : (Tryz.prog.info? 55).map (fun i => (i.zero, i.size, i.bytes)) = some (some (.agg #[.int .i64 0, .int .i64 0, .int .i64 0, .int .i64 0, .int .i64 0, .slice none 0 0, .slice none 0 0]), 7, 88) := by kernel_rfl
theorem wpList_append_full (w : World) {ops : Array Oper} {rest : List Oper} {o : Oper} {a : Act} {Q : Exit → Act → World → Prop} (hgd : o.guard = none) (s x : Operand) (ts : TypeId)
    (ho : o.op = .call { callee := .builtin .append, args := #[s, x], argTypes := #[ts, ts] }) (b n0 : Nat) (c0 : Array Value) (e : TypeId) (i0 : TypeInfo) (z : Value) (sz bytes : Nat) (ht : Tryz.prog.underlying ts = some (.slice e)) (hi0 : Tryz.prog.info? e = some i0) (hz0 : i0.zero = some z) (hz1 : i0.size = sz) (hz2 : i0.bytes = bytes) (hzc : z.cells.size = sz) (hb : Bx w b e c0) (hc0 : c0.size = n0 * sz)
    (xv : Value) (n : Nat) (news : List Value) (hs : Src Tryz.prog sz ts xv n news w) (hl : news.length = n * sz) (hn : n0 + n ≤ 1000000) (hby : bytes ≤ 1000)
    (hv : a.eval s = .slice (some ⟨b, 0, none⟩) n0 n0) (hxv : a.eval x = xv)
    (hK : ∀ v' w', Apd e sz n0 n b c0.toList news w v' w' → wpList Tryz.prog ops Q rest (a.put o.dst v') w') : wpList Tryz.prog ops Q (o :: rest) a w := by
  refine wpList_plain hgd fun K hK' => ?_
  obtain ⟨v', w', hrun, r1⟩ := run_append_full w b n0 c0 o.type ts e i0 z sz bytes ht hi0 hz0 hz1 hz2 hzc hb hc0 xv n news hs hl hn hby
  unfold Oper.wp
  simp [execOp, ho, resolve, invoke, builtin, hv, hxv, hrun, Result.andThen]
  exact hK' _ _ (hK v' w' r1)
theorem wpOp_append_full {ops : Array Oper} {Q : Exit → Act → World → Prop} {i : Nat} {o : Oper} {K : Act → World → Prop} {a : Act} (w : World) (d : Nat) (hoi : ops[i]? = some o) (hd : o.dst = some d) (hw : ∀ t, Region.wanted o t = true) (s x : Operand) (ts : TypeId)
    (ho : o.op = .call { callee := .builtin .append, args := #[s, x], argTypes := #[ts, ts] }) (b n0 : Nat) (c0 : Array Value) (e : TypeId) (i0 : TypeInfo) (z : Value) (sz bytes : Nat) (ht : Tryz.prog.underlying ts = some (.slice e)) (hi0 : Tryz.prog.info? e = some i0) (hz0 : i0.zero = some z) (hz1 : i0.size = sz) (hz2 : i0.bytes = bytes) (hzc : z.cells.size = sz) (hb : Bx w b e c0) (hc0 : c0.size = n0 * sz)
    (xv : Value) (n : Nat) (news : List Value) (hs : Src Tryz.prog sz ts xv n news w) (hl : news.length = n * sz) (hn : n0 + n ≤ 1000000) (hby : bytes ≤ 1000)
    (hv : a.eval s = .slice (some ⟨b, 0, none⟩) n0 n0) (hxv : a.eval x = xv)
    (hK : ∀ v' w', Apd e sz n0 n b c0.toList news w v' w' → K (a.put (some d) v') w') : wpOpIn Fence.wide 100 Tryz.prog ops Q i K a w := by
  obtain ⟨v', w', hr, r1⟩ := run_append_full w b n0 c0 o.type ts e i0 z sz bytes ht hi0 hz0 hz1 hz2 hzc hb hc0 xv n news hs hl hn hby
  refine wpOp_value (v := v') (w' := w') hoi hw (fun c hc => by rw [ho] at hc; cases hc) ?_ (by rw [hd]; exact hK v' w' r1)
  unfold execOp
  simp only [ho, resolve, invoke, builtin, Sem.run_bind, Sem.run_pure, Result.andThen_ok, List.map_toArray, List.map_cons, List.map_nil, hv, hxv, hr]
theorem AnyS.skipD {md : Region.Mode} {ops : Array Oper} {Q : Exit → Act → World → Prop} {S : World → Prop} {i : Nat} {o : Oper} {fuel : Nat} {listed : Array Bool} {a : Act} {w w' : World} (hr0 : Region.ready md ops listed = [i]) (ho : ops[i]? = some o) (hd : o.dst = none)
    (hw : ∀ t, Region.wanted o t = true) (hnd : ∀ c, o.op ≠ .defer c) (hr : (execOp a.eval o).run Tryz.prog w = .ok .skip w')
    (hK : S w' ∧ AnyS Fence.wide 100 Tryz.prog md ops Q S fuel (listed.setIfInBounds i true) a w') : AnyS Fence.wide 100 Tryz.prog md ops Q S (fuel + 1) listed a w := by
  refine AnyS.one hr0 (wpOp_skip ho hw hnd hr ?_)
  rw [hd]
  exact hK
def insV (x : Ins) : Array Value := #[.int .i64 x.op, .int .i64 x.dst, .int .i64 x.a, .int .i64 x.b, .int .i64 x.n, .slice none 0 0, .slice none 0 0]
set_option maxHeartbeats 16000000 in
set_option maxRecDepth 100000 in
theorem inserted_any (vf : Value) (F : Fn) (b : Nat) (x : Ins) (w : World) (hF : RFn w.cell? vf F) (hs : Tny F) (hb : b < F.blocks.length) (hxa : x.args = []) (hxt : x.types = []) :
    Calls Tryz.prog 24 #[vf, .int .i64 b, .agg (insV x)] w fun e w' => (∃ vg, e = .returned vg ∧ RFn w'.cell? vg (insB F b x)) ∧ Below w.heap.size w w' := by
  obtain ⟨mo, pa, ar, vb, vr, vl', vk, vt, Ab, At, nb, cb, nt, ct, rfl, rfl, rfl, m1, m2, ⟨Ar, kr, rfl, hr1, hr2, hr3⟩, ⟨Al, kl, rfl, g1, g2, hL⟩, ⟨Ak, kk, rfl, hk1, hk2, hk3⟩⟩ := id hF
  have hbl := hs.blocks
  have hbc := hs.code (F.blk b) (getD_mem hb)
  have HF := Lib.hid (fun c (hc : Le w.cell? c) => hF.mono hc)
  obtain ⟨adb, vc, vg, rfl, c0, c1, c2, c3, ⟨Ac, kc, rfl, hc1, hc2, hc3⟩, ⟨Ag, kg, rfl, hg1, hg2, hg3⟩⟩ := hk3.blk_at b hb
  have HRB := Lib.hid (fun c (hc : Le w.cell? c) => (show RSl KBlk 4 w.cell? (.slice (some adb) F.blocks.length kk) F.blocks from ⟨_, _, rfl, hk1, hk2, hk3⟩).mono monoBlk hc)
  have HRC := Lib.hid (fun c (hc : Le w.cell? c) => (show RSl KIns 7 w.cell? (.slice Ac (F.blk b).code.length kc) (F.blk b).code from ⟨_, _, rfl, hc1, hc2, hc3⟩).mono monoIns hc)
  have HLO := Lib.hid (fun c (hc : Le w.cell? c) => (show RSl KTy 3 w.cell? (.slice Al F.locals.length kl) F.locals from ⟨_, _, rfl, g1, g2, hL⟩).mono monoTy hc)
  have HRE := Lib.hid (fun c (hc : Le w.cell? c) => (show RSl KTy 3 w.cell? (.slice Ar F.result.args.length kr) F.result.args from ⟨_, _, rfl, hr1, hr2, hr3⟩).mono monoTy hc)
  have HRG := Lib.hid (fun c (hc : Le w.cell? c) => (show RInts w.cell? (.slice Ag (F.blk b).fin.targets.length kg) (F.blk b).fin.targets from ⟨_, _, rfl, hg1, hg2, hg3⟩).mono monoInt hc)
  obtain ⟨i0, hi0, hz0, hz1, hz2⟩ := info_parts Tryz.info66
  obtain ⟨i1, hi1, hy0, hy1, hy2⟩ := info_parts Tryz.info55
  have HC0 := Lib.hid c0
  clear hF hr3 hL hk3 c1 c2 c3 c0 hc3 hg3
  unfold insV
  go_enter Tryz.func24, Tryz.ntmps24
  go_upto_region 2 with fail
  obtain ⟨FC, hFC⟩ : ∃ FC : Array Value, FC = #[.string F.name, .int .i64 mo, .int .i64 pa, .slice Ab nb cb, .int .i64 ar, .int .i64 F.result.kind, .int .i64 F.result.id, .slice Ar F.result.args.length kr, .slice Al F.locals.length kl, .slice (some adb) F.blocks.length kk, .slice At nt ct] := ⟨_, rfl⟩
  obtain ⟨bF, hbF⟩ : ∃ bF, bF = w.heap.size := ⟨_, rfl⟩
  obtain ⟨bX, hbX⟩ : ∃ bX, bX = bF + 1 := ⟨_, rfl⟩
  obtain ⟨bR, hbR⟩ : ∃ bR, bR = bX + 1 := ⟨_, rfl⟩
  obtain ⟨bO, hbO⟩ : ∃ bO, bO = bR + 1 := ⟨_, rfl⟩
  rw [← hbF, ← hbX, ← hbR, ← hbO]
  generalize hW : World.alloc _ _ = W
  have HB0 : Hid (Below w.heap.size w W) := by rw [← hW]; repeat (first | apply Bl.alloc | exact Below.refl _ _)
  have HBF0 : Hid (Bx W bF 29 FC) := by
    show Bx _ _ _ _
    rw [← hW, hFC]
    exact (((Bx.at0 _ _ _ hbF).alloc _).alloc _).alloc _
  have HBX0 : Hid (Bx W bX 55 (insV x)) := by
    show Bx _ _ _ _
    rw [← hW]
    exact ((Bx.at0 _ _ _ (by rw [hbX, hbF]; simp)).alloc _).alloc _
  have HBR0 : Hid (∃ Z, Bx W bR 29 Z ∧ Z.size = 11) := by
    refine ⟨#[.string ByteArray.empty, .int .i64 0, .int .i64 0, .slice none 0 0, .int .i64 0, .int .i64 0, .int .i64 0, .slice none 0 0, .slice none 0 0, .slice none 0 0, .slice none 0 0], ?_, rfl⟩
    rw [← hW]
    exact (Bx.at0 _ _ _ (by rw [hbR, hbX, hbF]; simp)).alloc _
  have HBO0 : Hid (Bx W bO 29 FC) := by
    show Bx _ _ _ _
    rw [← hW, hFC]
    exact Bx.at0 _ _ _ (by rw [hbO, hbR, hbX, hbF]; simp)
  have HFC := Lib.hid hFC
  have hbs : bF ≠ bO ∧ bX ≠ bO ∧ bR ≠ bO ∧ bF ≠ bR ∧ bX ≠ bR := by omega
  have hbw : w.heap.size ≤ bO ∧ w.heap.size ≤ bR := by omega
  clear hW hbF hFC hbX hbR hbO
  have hbE : Below W.heap.size W (W.alloc (.cells #[] 66)) := Bl.alloc (Below.refl _ _) _
  obtain ⟨L, hL1, hL2, hL3, hL4⟩ := rsl_list (HRB.out _ (Le.refl _))
  have hleE := Bl.le (Bl.call HB0.out hbE)
  have hsrc : Src Tryz.prog 4 26 (.slice (some adb) F.blocks.length kk) F.blocks.length L.flatten (W.alloc (.cells #[] 66)) :=
    src_row (by decide) Tryz.underlying26 rfl hL1 hL2 (fun ad e j i es u h1 h2 => by simp only [Option.some.injEq] at e; subst e; exact hleE _ _ (hL4 _ kk rfl j i es u h1 h2)) (fun es he => by
      obtain ⟨j, hj⟩ := List.getElem?_of_mem he
      have hjl := (List.getElem?_eq_some_iff.1 hj).1
      exact blk_one (hL3 j _ es (List.getElem?_eq_getElem (by omega)) hj)) (fun h => by cases h)
  have HL1 := Lib.hid hL1
  have HL2 := Lib.hid hL2
  have HL3 := Lib.hid hL3
  have HSRC := Lib.hid hsrc
  have HBE : Hid (Bx (W.alloc (.cells #[] 66)) W.heap.size 66 #[]) := Bx.at0 _ _ _ rfl
  have HFL := Lib.hid (show L.flatten.length = F.blocks.length * 4 by rw [flat_len L hL2, hL1])
  have HEB := Lib.hid hbE
  have hWs := HB0.out.size
  have hcO := HBO0.out.cell
  rw [HFC.out] at hcO
  have hcF := HBF0.out.cell
  rw [HFC.out] at hcF
  clear hsrc hL1 hL2 hL3 hL4 hbE hleE
  have ltO := HBO0.out.lt
  have ltF := HBF0.out.lt
  go_upto_region 3 with (at_builtin; refine wpList_append_full _ rfl (.tmp 9) (.tmp 11) 26 rfl _ 0 #[] 66 i0 _ 4 64 Tryz.underlying26 hi0 hz0 hz1 hz2 rfl HBE.out rfl _ F.blocks.length L.flatten HSRC.out HFL.out (by omega) (by omega) rfl rfl ?_; intro v' w1 hap; have HAP := Lib.hid hap; have hb1 := Bl.call HEB.out hap.below; have hcO := (HBO0.out.below hb1).cell; have hfO := (HBO0.out.below hb1).frozen; have HB1 := Lib.hid hb1; rw [HFC.out] at hcO; obtain ⟨g1, cap1, cs1, rfl, hr1', hr2', hr3', hr4', hr5', hr6'⟩ := hap.row; have HR := Lib.hid (And.intro hr1' (And.intro hr2' (And.intro hr3' (And.intro hr4' (And.intro hr5' hr6'))))); clear hap hb1 hcF HAP hr1' hr2' hr3' hr4' hr5' hr6')
  obtain ⟨hr1, hr2, hr3, hr4, hr5, hr6⟩ := HR.out
  rw [Nat.zero_add] at hr2
  have hg1 : g1 ≠ bO ∧ g1 ≠ bR ∧ w.heap.size ≤ g1 := by
    refine ⟨hr1.ne (HBO0.out.below HB1.out) (by decide), ?_, ?_⟩
    · obtain ⟨Z, hZ, _⟩ := HBR0.out
      exact hr1.ne (hZ.below HB1.out) (by decide)
    · have h1 := HEB.out.size
      rcases hr6 with h | h <;> omega
  generalize hW2 : World.setCell _ _ _ = w2
  have HB2 : Hid (Below w.heap.size w w2) := by rw [← hW2]; exact Bl.set (Bl.call HB0.out HB1.out) hbw.1 _
  have HBF2 : Hid (Bx w2 bF 29 FC) := by rw [← hW2]; exact (HBF0.out.below HB1.out).far (by simpa using hbs.1) _
  have HBX2 : Hid (Bx w2 bX 55 (insV x)) := by rw [← hW2]; exact (HBX0.out.below HB1.out).far (by simpa using hbs.2.1) _
  have HBR2 : Hid (∃ Z, Bx w2 bR 29 Z ∧ Z.size = 11) := by
    obtain ⟨Z, hZ, hz⟩ := HBR0.out
    exact ⟨Z, by rw [← hW2]; exact (hZ.below HB1.out).far (by simpa using hbs.2.2.1) _, hz⟩
  have HBO2 : Hid (Bx w2 bO 29 #[.string F.name, .int .i64 mo, .int .i64 pa, .slice Ab nb cb, .int .i64 ar, .int .i64 F.result.kind, .int .i64 F.result.id, .slice Ar F.result.args.length kr, .slice Al F.locals.length kl, .slice (some ⟨g1, 0, none⟩) F.blocks.length cap1, .slice At nt ct]) := by
    show Bx _ _ _ _
    have h := (HBO0.out.below HB1.out).set 9 (.slice (some ⟨g1, 0, none⟩) F.blocks.length cap1)
    rw [HFC.out] at h
    rw [← hW2]
    simpa using h
  have HBG2 : Hid (Bx w2 g1 66 cs1) := by rw [← hW2]; exact hr1.far (by simpa using hg1.1) _
  have HCS := Lib.hid hr5
  have HCZ := Lib.hid (show b * 4 < cs1.size by omega)
  have HCAP := Lib.hid (show F.blocks.length ≤ cap1 ∧ cap1 ≤ maxLen from ⟨hr2, hr3⟩)
  clear hW2 HR hr1 hr2 hr3 hr4 hr5 hr6 hcO hfO ltO ltF HSRC HBE HFL HEB HBF0 HBX0 HBR0 HBO0 HB1
  have hcF := HBF2.out.cell
  rw [HFC.out] at hcF
  have hcO := HBO2.out.cell
  have hcX := HBX2.out.cell
  unfold insV at hcX
  have hcC := Bl.le HB2.out _ _ HC0.out
  have hbi : (b : Int) < (F.blocks.length : Int) := by omega
  refine region_anyS (S := (fun w'' : World => (∀ j, w''.cell? ⟨bF, j, none⟩ = (#[.string F.name, .int .i64 mo, .int .i64 pa, .slice Ab nb cb, .int .i64 ar, .int .i64 F.result.kind, .int .i64 F.result.id, .slice Ar F.result.args.length kr, .slice Al F.locals.length kl, .slice (some adb) F.blocks.length kk, .slice At nt ct] : Array Value)[j]?) ∧ (∀ j, w''.cell? ⟨bO, j, none⟩ = (#[.string F.name, .int .i64 mo, .int .i64 pa, .slice Ab nb cb, .int .i64 ar, .int .i64 F.result.kind, .int .i64 F.result.id, .slice Ar F.result.args.length kr, .slice Al F.locals.length kl, .slice (some ⟨g1, 0, none⟩) F.blocks.length cap1, .slice At nt ct] : Array Value)[j]?) ∧ (∀ j, w''.cell? ⟨bX, j, none⟩ = (#[.int .i64 x.op, .int .i64 x.dst, .int .i64 x.a, .int .i64 x.b, .int .i64 x.n, .slice none 0 0, .slice none 0 0] : Array Value)[j]?) ∧ w''.cell? (adb.add (b * 4)) = some (.slice Ac (F.blk b).code.length kc))) ?_
  have hSd : (fun w'' : World => (∀ j, w''.cell? ⟨bF, j, none⟩ = (#[.string F.name, .int .i64 mo, .int .i64 pa, .slice Ab nb cb, .int .i64 ar, .int .i64 F.result.kind, .int .i64 F.result.id, .slice Ar F.result.args.length kr, .slice Al F.locals.length kl, .slice (some adb) F.blocks.length kk, .slice At nt ct] : Array Value)[j]?) ∧ (∀ j, w''.cell? ⟨bO, j, none⟩ = (#[.string F.name, .int .i64 mo, .int .i64 pa, .slice Ab nb cb, .int .i64 ar, .int .i64 F.result.kind, .int .i64 F.result.id, .slice Ar F.result.args.length kr, .slice Al F.locals.length kl, .slice (some ⟨g1, 0, none⟩) F.blocks.length cap1, .slice At nt ct] : Array Value)[j]?) ∧ (∀ j, w''.cell? ⟨bX, j, none⟩ = (#[.int .i64 x.op, .int .i64 x.dst, .int .i64 x.a, .int .i64 x.b, .int .i64 x.n, .slice none 0 0, .slice none 0 0] : Array Value)[j]?) ∧ w''.cell? (adb.add (b * 4)) = some (.slice Ac (F.blk b).code.length kc)) w2.drew := ⟨hcF, hcO, hcX, hcC⟩
  (refine AnyS.takeD (i := 0) 14 (v := ?_) (by kernel_rfl) rfl rfl (by kernel_rfl) (by kernel_rfl) (by kernel_rfl) (fun _ _ _ h => h) (by assumption) ⟨⟨by kernel_rfl, ?_⟩, fun _ => rfl⟩ ?_; rotate_left; (rintro w' ⟨hs1, hs2, hs3, hs4⟩; go_simp; rfl))
  (refine AnyS.takeD (i := 1) 15 (v := ?_) (by kernel_rfl) rfl rfl (by kernel_rfl) (by kernel_rfl) (by kernel_rfl) (fun _ _ _ h => h) (by assumption) ⟨⟨by kernel_rfl, ?_⟩, fun _ => rfl⟩ ?_; rotate_left; (rintro w' ⟨hs1, hs2, hs3, hs4⟩; go_simp; rfl))
  (refine AnyS.takeD (i := 2) 16 (v := ?_) (by kernel_rfl) rfl rfl (by kernel_rfl) (by kernel_rfl) (by kernel_rfl) (fun _ _ _ h => h) (by assumption) ⟨⟨by kernel_rfl, ?_⟩, fun _ => rfl⟩ ?_; rotate_left; (rintro w' ⟨hs1, hs2, hs3, hs4⟩; go_simp; rfl))
  (refine AnyS.takeD (i := 3) 17 (v := ?_) (by kernel_rfl) rfl rfl (by kernel_rfl) (by kernel_rfl) (by kernel_rfl) (fun _ _ _ h => h) (by assumption) ⟨⟨by kernel_rfl, ?_⟩, fun _ => rfl⟩ ?_; rotate_left; (rintro w' ⟨hs1, hs2, hs3, hs4⟩; go_simp; rfl))
  (refine AnyS.takeD (i := 5) 19 (v := ?_) (by kernel_rfl) rfl rfl (by kernel_rfl) (by kernel_rfl) (by kernel_rfl) (fun _ _ _ h => h) (by assumption) ⟨⟨by kernel_rfl, ?_⟩, fun _ => rfl⟩ ?_; rotate_left; (rintro w' ⟨hs1, hs2, hs3, hs4⟩; go_simp; rfl))
  (refine AnyS.takeD (i := 6) 20 (v := ?_) (by kernel_rfl) rfl rfl (by kernel_rfl) (by kernel_rfl) (by kernel_rfl) (fun _ _ _ h => h) (by assumption) ⟨⟨by kernel_rfl, ?_⟩, fun _ => rfl⟩ ?_; rotate_left; (rintro w' ⟨hs1, hs2, hs3, hs4⟩; go_simp; rfl))
  (refine AnyS.takeD (i := 7) 21 (v := ?_) (by kernel_rfl) rfl rfl (by kernel_rfl) (by kernel_rfl) (by kernel_rfl) (fun _ _ _ h => h) (by assumption) ⟨⟨by kernel_rfl, ?_⟩, fun _ => rfl⟩ ?_; rotate_left; (rintro w' ⟨hs1, hs2, hs3, hs4⟩; go_simp; rfl))
  (refine AnyS.takeD (i := 8) 22 (v := ?_) (by kernel_rfl) rfl rfl (by kernel_rfl) (by kernel_rfl) (by kernel_rfl) (fun _ _ _ h => h) (by assumption) ⟨⟨by kernel_rfl, ?_⟩, fun _ => rfl⟩ ?_; rotate_left; (rintro w' ⟨hs1, hs2, hs3, hs4⟩; go_simp; rfl))
  (refine AnyS.takeD (i := 9) 23 (v := ?_) (by kernel_rfl) rfl rfl (by kernel_rfl) (by kernel_rfl) (by kernel_rfl) (fun _ _ _ h => h) (by assumption) ⟨⟨by kernel_rfl, ?_⟩, fun _ => rfl⟩ ?_; rotate_left; (rintro w' ⟨hs1, hs2, hs3, hs4⟩; go_simp; rfl))
  (refine AnyS.takeD (i := 10) 24 (v := ?_) (by kernel_rfl) rfl rfl (by kernel_rfl) (by kernel_rfl) (by kernel_rfl) (fun _ _ _ h => h) (by assumption) ⟨⟨by kernel_rfl, ?_⟩, fun _ => rfl⟩ ?_; rotate_left; (rintro w' ⟨hs1, hs2, hs3, hs4⟩; go_simp; rfl))
  refine AnyS.act (by simp only [Act.put, List.setIfInBounds_toArray, List.set_cons_succ, List.set_cons_zero]; rfl) ?_
  have hb3 : Below w2.heap.size w2 (w2.drew.alloc (.cells #[.int .i64 x.op, .int .i64 x.dst, .int .i64 x.a, .int .i64 x.b, .int .i64 x.n, .slice none 0 0, .slice none 0 0] 55)) := Bl.alloc (Bl.drew (Below.refl _ _)) _
  have hS3 : (fun w'' : World => (∀ j, w''.cell? ⟨bF, j, none⟩ = (#[.string F.name, .int .i64 mo, .int .i64 pa, .slice Ab nb cb, .int .i64 ar, .int .i64 F.result.kind, .int .i64 F.result.id, .slice Ar F.result.args.length kr, .slice Al F.locals.length kl, .slice (some adb) F.blocks.length kk, .slice At nt ct] : Array Value)[j]?) ∧ (∀ j, w''.cell? ⟨bO, j, none⟩ = (#[.string F.name, .int .i64 mo, .int .i64 pa, .slice Ab nb cb, .int .i64 ar, .int .i64 F.result.kind, .int .i64 F.result.id, .slice Ar F.result.args.length kr, .slice Al F.locals.length kl, .slice (some ⟨g1, 0, none⟩) F.blocks.length cap1, .slice At nt ct] : Array Value)[j]?) ∧ (∀ j, w''.cell? ⟨bX, j, none⟩ = (#[.int .i64 x.op, .int .i64 x.dst, .int .i64 x.a, .int .i64 x.b, .int .i64 x.n, .slice none 0 0, .slice none 0 0] : Array Value)[j]?) ∧ w''.cell? (adb.add (b * 4)) = some (.slice Ac (F.blk b).code.length kc)) (w2.drew.alloc (.cells #[.int .i64 x.op, .int .i64 x.dst, .int .i64 x.a, .int .i64 x.b, .int .i64 x.n, .slice none 0 0, .slice none 0 0] 55)) := by
    refine ⟨?_, (HBO2.out.below hb3).cell, (HBX2.out.below hb3).cell, Bl.le hb3 _ _ hcC⟩
    have h := (HBF2.out.below hb3).cell
    rwa [HFC.out] at h
  refine AnyS.valueD (i := 4) 18 (v := .slice (some ⟨w2.heap.size, 0, none⟩) 1 1) (w' := w2.drew.alloc (.cells #[.int .i64 x.op, .int .i64 x.dst, .int .i64 x.a, .int .i64 x.b, .int .i64 x.n, .slice none 0 0, .slice none 0 0] 55)) (by kernel_rfl) rfl rfl (by kernel_rfl) (fun c hc => by cases hc) (by go_simp) ⟨hS3, ?_⟩
  obtain ⟨A9, k9, e9, _, _, row9⟩ := HRC.out _ (Le.refl _)
  simp only [Value.slice.injEq] at e9
  obtain ⟨rfl, _, rfl⟩ := e9
  obtain ⟨M, hM1, hM2, hM3, hM4⟩ := rsl_list (HRC.out _ (Le.refl _))
  have hle3 := Bl.le (Bl.call HB2.out hb3)
  have hsrc : Src Tryz.prog 7 62 (.slice Ac (F.blk b).code.length kc) (F.blk b).code.length M.flatten (w2.drew.alloc (.cells #[.int .i64 x.op, .int .i64 x.dst, .int .i64 x.a, .int .i64 x.b, .int .i64 x.n, .slice none 0 0, .slice none 0 0] 55)) :=
    src_row (by decide) Tryz.underlying62 rfl hM1 hM2 (fun ad e j i es u h1 h2 => by subst e; exact hle3 _ _ (hM4 _ kc rfl j i es u h1 h2)) (fun es he => by
      obtain ⟨j, hj⟩ := List.getElem?_of_mem he
      have hjl := (List.getElem?_eq_some_iff.1 hj).1
      exact ins_one (hM3 j _ es (List.getElem?_eq_getElem (by omega)) hj)) (fun h => Nat.eq_zero_of_not_pos (fun hp => by
        obtain ⟨ad, _, e, _⟩ := row9 0 _ (List.getElem?_eq_getElem hp)
        rw [h] at e
        cases e))
  have hbY : Bx (w2.drew.alloc (.cells #[.int .i64 x.op, .int .i64 x.dst, .int .i64 x.a, .int .i64 x.b, .int .i64 x.n, .slice none 0 0, .slice none 0 0] 55)) w2.heap.size 55 #[.int .i64 x.op, .int .i64 x.dst, .int .i64 x.a, .int .i64 x.b, .int .i64 x.n, .slice none 0 0, .slice none 0 0] := Bx.at0 _ _ _ rfl
  refine AnyS.one (i := 11) (by kernel_rfl) ?_
  refine wpOp_append_full _ 25 rfl rfl (fun _ => rfl) (.tmp 18) (.tmp 24) 62 rfl w2.heap.size 1 #[.int .i64 x.op, .int .i64 x.dst, .int .i64 x.a, .int .i64 x.b, .int .i64 x.n, .slice none 0 0, .slice none 0 0] 55 i1 _ 7 88 Tryz.underlying62 hi1 hy0 hy1 hy2 rfl hbY rfl _ (F.blk b).code.length M.flatten hsrc (by rw [flat_len M hM2, hM1]) (by omega) (by omega) (by kernel_rfl) (by kernel_rfl) ?_
  intro v2 w4 hap2
  have hb4 : Below w2.heap.size w2 w4 := Bl.call hb3 hap2.below
  have hS4 : (fun w'' : World => (∀ j, w''.cell? ⟨bF, j, none⟩ = (#[.string F.name, .int .i64 mo, .int .i64 pa, .slice Ab nb cb, .int .i64 ar, .int .i64 F.result.kind, .int .i64 F.result.id, .slice Ar F.result.args.length kr, .slice Al F.locals.length kl, .slice (some adb) F.blocks.length kk, .slice At nt ct] : Array Value)[j]?) ∧ (∀ j, w''.cell? ⟨bO, j, none⟩ = (#[.string F.name, .int .i64 mo, .int .i64 pa, .slice Ab nb cb, .int .i64 ar, .int .i64 F.result.kind, .int .i64 F.result.id, .slice Ar F.result.args.length kr, .slice Al F.locals.length kl, .slice (some ⟨g1, 0, none⟩) F.blocks.length cap1, .slice At nt ct] : Array Value)[j]?) ∧ (∀ j, w''.cell? ⟨bX, j, none⟩ = (#[.int .i64 x.op, .int .i64 x.dst, .int .i64 x.a, .int .i64 x.b, .int .i64 x.n, .slice none 0 0, .slice none 0 0] : Array Value)[j]?) ∧ w''.cell? (adb.add (b * 4)) = some (.slice Ac (F.blk b).code.length kc)) w4 := by
    refine ⟨?_, (HBO2.out.below hb4).cell, (HBX2.out.below hb4).cell, Bl.le hb4 _ _ hcC⟩
    have h := (HBF2.out.below hb4).cell
    rwa [HFC.out] at h
  refine ⟨hS4, ?_⟩
  obtain ⟨g2, cap2, cs2, rfl, q1, q2, q3, q4, q5, q6⟩ := hap2.row
  have HB4 := Lib.hid (Bl.call HB2.out hb4)
  have HBR4 : Hid (∃ Z, Bx w4 bR 29 Z ∧ Z.size = 11) := by
    obtain ⟨Z, hZ, hz⟩ := HBR2.out
    exact ⟨Z, hZ.below hb4, hz⟩
  have HBO4 := Lib.hid (HBO2.out.below hb4)
  have HBF4 := Lib.hid (HBF2.out.below hb4)
  have HBX4 := Lib.hid (HBX2.out.below hb4)
  have HBG4 := Lib.hid (HBG2.out.below hb4)
  have hg2 : g2 ≠ g1 ∧ g2 ≠ bR ∧ g2 ≠ bO := by
    obtain ⟨Z, hZ, _⟩ := HBR4.out
    exact ⟨q1.ne HBG4.out (by decide), q1.ne hZ (by decide), q1.ne HBO4.out (by decide)⟩
  have HQ := Lib.hid (And.intro q1 (And.intro q2 (And.intro q3 q5)))
  have HM1 := Lib.hid hM1
  have HM2 := Lib.hid hM2
  have HM3 := Lib.hid hM3
  clear hS3 hSd hcF hcO hcX hcC hb3 row9 hM4 hle3 hsrc hbY hap2 q1 q2 q3 q4 q5 q6 hM1 hM2 hM3
  refine AnyS.act (by simp only [Act.put, List.setIfInBounds_toArray, List.set_cons_succ, List.set_cons_zero]; rfl) ?_
  (refine AnyS.takeD (i := 12) 26 (v := ?_) (by kernel_rfl) rfl rfl (by kernel_rfl) (by kernel_rfl) (by kernel_rfl) (fun _ _ _ h => h) (by assumption) ⟨⟨by kernel_rfl, ?_⟩, fun _ => rfl⟩ ?_; rotate_left; (rintro w' ⟨hs1, hs2, hs3, hs4⟩; go_simp; rfl))
  (refine AnyS.takeD (i := 13) 27 (v := ?_) (by kernel_rfl) rfl rfl (by kernel_rfl) (by kernel_rfl) (by kernel_rfl) (fun _ _ _ h => h) (by assumption) ⟨⟨by kernel_rfl, ?_⟩, fun _ => rfl⟩ ?_; rotate_left; (rintro w' ⟨hs1, hs2, hs3, hs4⟩; go_simp; rfl))
  have cG := HBG4.out.cell (b * 4)
  rw [Array.getElem?_eq_getElem HCZ.out] at cG
  have fG := HBG4.out.frozen (b * 4)
  obtain ⟨vN, hvN⟩ : ∃ vN, vN = Value.slice (some ⟨g2, 0, none⟩) (1 + (F.blk b).code.length) cap2 := ⟨_, rfl⟩
  have hS5 : (fun w'' : World => (∀ j, w''.cell? ⟨bF, j, none⟩ = (#[.string F.name, .int .i64 mo, .int .i64 pa, .slice Ab nb cb, .int .i64 ar, .int .i64 F.result.kind, .int .i64 F.result.id, .slice Ar F.result.args.length kr, .slice Al F.locals.length kl, .slice (some adb) F.blocks.length kk, .slice At nt ct] : Array Value)[j]?) ∧ (∀ j, w''.cell? ⟨bO, j, none⟩ = (#[.string F.name, .int .i64 mo, .int .i64 pa, .slice Ab nb cb, .int .i64 ar, .int .i64 F.result.kind, .int .i64 F.result.id, .slice Ar F.result.args.length kr, .slice Al F.locals.length kl, .slice (some ⟨g1, 0, none⟩) F.blocks.length cap1, .slice At nt ct] : Array Value)[j]?) ∧ (∀ j, w''.cell? ⟨bX, j, none⟩ = (#[.int .i64 x.op, .int .i64 x.dst, .int .i64 x.a, .int .i64 x.b, .int .i64 x.n, .slice none 0 0, .slice none 0 0] : Array Value)[j]?) ∧ w''.cell? (adb.add (b * 4)) = some (.slice Ac (F.blk b).code.length kc)) (w4.setCell ⟨g1, b * 4, none⟩ vN) := by
    refine ⟨?_, ?_, ?_, ?_⟩
    · have h := (HBF4.out.far (p := ⟨g1, b * 4, none⟩) (by have := HBF4.out.ne HBG4.out (by decide); simpa using this) vN).cell
      rwa [HFC.out] at h
    · exact (HBO4.out.far (p := ⟨g1, b * 4, none⟩) (by have := hg1.1; simpa using this.symm) vN).cell
    · exact (HBX4.out.far (p := ⟨g1, b * 4, none⟩) (by have := HBX4.out.ne HBG4.out (by decide); simpa using this) vN).cell
    · have h := Chg.cell (D := [g1]) ((Chg.refl [g1] w4).put (p := ⟨g1, b * 4, none⟩) (.inl (by simp)) vN) (a := adb.add (b * 4)) (by
        rw [List.mem_singleton]
        have h1 := World.block_lt_of_cell? _ _ HC0.out
        have := hg1.2.2
        omega) (Bl.le HB4.out _ _ HC0.out)
      exact h
  rw [hvN] at hS5
  refine AnyS.skipD (i := 14) (w' := w4.setCell ⟨g1, b * 4, none⟩ (.slice (some ⟨g2, 0, none⟩) (1 + (F.blk b).code.length) cap2)) (by kernel_rfl) rfl rfl (fun _ => rfl) (fun c hc => by cases hc) (by go_simp) ⟨hS5, ?_⟩
  refine AnyS.act (by simp only [Act.put, List.setIfInBounds_toArray, List.set_cons_succ, List.set_cons_zero]; rfl) ?_
  refine AnyS.done (by kernel_rfl) ?_ _
  rw [← hvN]
  clear hS5 hS4 cG fG
  generalize hW5 : World.setCell _ _ _ = w5
  have hch : Chg [g1] w4 w5 := by rw [← hW5]; exact (Chg.refl _ _).put (.inl (by simp)) _
  have HB5 : Hid (Below w.heap.size w w5) := Bl.chg HB4.out hch (fun i hi => by rw [List.mem_singleton] at hi; rw [hi]; exact hg1.2.2)
  have HBO5 := Lib.hid (HBO4.out.chg hch (by simpa using hg1.1.symm))
  have HBR5 : Hid (∃ Z, Bx w5 bR 29 Z ∧ Z.size = 11) := by
    obtain ⟨Z, hZ, hz⟩ := HBR4.out
    exact ⟨Z, hZ.chg hch (by simpa using hg1.2.1.symm), hz⟩
  have HBG5 : Hid (Bx w5 g1 66 (cs1.setIfInBounds (b * 4) vN)) := by rw [← hW5]; exact HBG4.out.set _ _
  have HBY5 : Hid (Bx w5 g2 55 cs2) := HQ.out.1.chg hch (by simpa using hg2.1)
  clear hW5 hch HB4 HBR4 HBO4 HBF4 HBX4 HBG4
  have hcO := HBO5.out.cell
  obtain ⟨Z, hZ, hZs⟩ := HBR5.out
  have cR : ∀ j, j < 11 → ∃ u, w5.cell? ⟨bR, j, none⟩ = some u := fun j hj => ⟨Z[j], by rw [hZ.cell]; exact Array.getElem?_eq_getElem (by omega)⟩
  have fR := hZ.frozen
  obtain ⟨r0, s0⟩ := cR 0 (by omega)
  obtain ⟨r1, s1⟩ := cR 1 (by omega)
  obtain ⟨r2, s2⟩ := cR 2 (by omega)
  obtain ⟨r3, s3⟩ := cR 3 (by omega)
  obtain ⟨r4, s4⟩ := cR 4 (by omega)
  obtain ⟨r5, s5⟩ := cR 5 (by omega)
  obtain ⟨r6, s6⟩ := cR 6 (by omega)
  obtain ⟨r7, s7⟩ := cR 7 (by omega)
  obtain ⟨r8, s8⟩ := cR 8 (by omega)
  obtain ⟨r9, s9⟩ := cR 9 (by omega)
  obtain ⟨r10, s10⟩ := cR 10 (by omega)
  clear cR
  go_wp2_with fail
  clear s0 s1 s2 s3 s4 s5 s6 s7 s8 s9 s10 r0 r1 r2 r3 r4 r5 r6 r7 r8 r9 r10
  have hsets := (((((((((((hZ.set 0 (.string F.name)).set 1 (.int .i64 mo)).set 2 (.int .i64 pa)).set 3 (.slice Ab nb cb)).set 4 (.int .i64 ar)).set 5 (.int .i64 F.result.kind)).set 6 (.int .i64 F.result.id)).set 7 (.slice Ar F.result.args.length kr)).set 8 (.slice Al F.locals.length kl)).set 9 (.slice (some ⟨g1, 0, none⟩) F.blocks.length cap1)).set 10 (.slice At nt ct))
  have hputs : Chg [bR] w5 ((World.setCell (World.setCell (World.setCell (World.setCell (World.setCell (World.setCell (World.setCell (World.setCell (World.setCell (World.setCell (World.setCell w5 ⟨bR, 0, none⟩ (.string F.name)) ⟨bR, 1, none⟩ (.int .i64 mo)) ⟨bR, 2, none⟩ (.int .i64 pa)) ⟨bR, 3, none⟩ (.slice Ab nb cb)) ⟨bR, 4, none⟩ (.int .i64 ar)) ⟨bR, 5, none⟩ (.int .i64 F.result.kind)) ⟨bR, 6, none⟩ (.int .i64 F.result.id)) ⟨bR, 7, none⟩ (.slice Ar F.result.args.length kr)) ⟨bR, 8, none⟩ (.slice Al F.locals.length kl)) ⟨bR, 9, none⟩ (.slice (some ⟨g1, 0, none⟩) F.blocks.length cap1)) ⟨bR, 10, none⟩ (.slice At nt ct))) := ((((((((((((Chg.refl [bR] w5).put (.inl (by simp)) _).put (.inl (by simp)) _).put (.inl (by simp)) _).put (.inl (by simp)) _).put (.inl (by simp)) _).put (.inl (by simp)) _).put (.inl (by simp)) _).put (.inl (by simp)) _).put (.inl (by simp)) _).put (.inl (by simp)) _).put (.inl (by simp)) _)
  generalize hW6 : World.setCell _ _ _ = w6 at hsets hputs ⊢
  have HBR6 : Hid (Bx w6 bR 29 #[.string F.name, .int .i64 mo, .int .i64 pa, .slice Ab nb cb, .int .i64 ar, .int .i64 F.result.kind, .int .i64 F.result.id, .slice Ar F.result.args.length kr, .slice Al F.locals.length kl, .slice (some ⟨g1, 0, none⟩) F.blocks.length cap1, .slice At nt ct]) := by
    show Bx _ _ _ _
    obtain ⟨Zl⟩ := Z
    obtain ⟨z0, z1, z2, z3, z4, z5, z6, z7, z8, z9, z10, rfl⟩ := list11 (show Zl.length = 11 from hZs)
    simpa using hsets
  have HP6 := Lib.hid hputs
  have HB6 : Hid (Below w.heap.size w w6) := Bl.chg HB5.out hputs (fun i hi => by rw [List.mem_singleton] at hi; rw [hi]; exact hbw.2)
  have HBG6 := Lib.hid (HBG5.out.chg hputs (by simpa using hg1.2.1))
  have HBY6 := Lib.hid (HBY5.out.chg hputs (by simpa using hg2.2.1))
  clear hW6 hsets hputs hZ hZs fR hcO HBR5 HBG5 HBY5 HBO5 HB5 HB2
  have cR6 := HBR6.out.cell
  refine bodyPost_ret (v := .agg #[.string F.name, .int .i64 mo, .int .i64 pa, .slice Ab nb cb, .int .i64 ar, .int .i64 F.result.kind, .int .i64 F.result.id, .slice Ar F.result.args.length kr, .slice Al F.locals.length kl, .slice (some ⟨g1, 0, none⟩) F.blocks.length cap1, .slice At nt ct]) (by simp [results, Tryz.results24, go_sem, cR6]) rfl ?_
  refine ⟨⟨_, rfl, ?_⟩, HB6.out⟩
  clear cR6
  obtain ⟨y1, y2, y3, y4⟩ := HQ.out
  have hbl2 : b < L.length := by rw [HL1.out]; exact hb
  have hLb := List.getElem?_eq_getElem hbl2
  have hFb : F.blocks[b]? = some (F.blk b) := by
    unfold Fn.blk
    rw [List.getD_eq_getElem?_getD, List.getElem?_eq_getElem hb]
    rfl
  obtain ⟨vc, vt, ees, hvc, hvt⟩ := HL3.out b _ _ hFb hLb
  obtain ⟨es, hes⟩ : ∃ es, es = [vN, .int .i64 (F.blk b).fin.kind, .int .i64 (F.blk b).fin.a, vt] := ⟨_, rfl⟩
  have hcode : RSl KIns 7 w6.cell? vN (x :: (F.blk b).code) := by
    rw [hvN]
    refine rsl_box (L := [.int .i64 x.op, .int .i64 x.dst, .int .i64 x.a, .int .i64 x.b, .int .i64 x.n, .slice none 0 0, .slice none 0 0] :: M) (by decide) HBY6.out (by simp [HM1.out]) (fun e he => ?_) (fun j y e hj he => ?_) (fun j u hu => y4 j u (by simpa using hu)) (by rw [List.length_cons]; omega) y2 y3
    · rcases List.mem_cons.1 he with h | h
      · rw [h]; rfl
      · exact HM2.out e h
    · cases j with
      | zero =>
        simp only [List.getElem?_cons_zero, Option.some.injEq] at hj he
        subst hj he
        exact ⟨_, _, rfl, by rw [hxa]; exact RSl.nil _ _ _, by rw [hxt]; exact RSl.nil _ _ _⟩
      | succ j =>
        rw [List.getElem?_cons_succ] at hj he
        exact monoIns _ _ _ _ (Bl.le HB6.out) (HM3.out j y e hj he)
  refine ⟨mo, pa, ar, _, _, _, _, _, Ab, At, nb, cb, nt, ct, rfl, rfl, rfl, m1, m2, HRE.out _ (Bl.le HB6.out), HLO.out _ (Bl.le HB6.out), ?_⟩
  have hlen : (insB F b x).blocks.length = F.blocks.length := insB_nb F b x
  refine rsl_box (L := L.set b es) (by decide) HBG6.out (by rw [List.length_set, HL1.out, hlen]) (fun e he => ?_) (fun j B e hj he => ?_) (fun j u hu => ?_) hlen.symm HCAP.out.1 HCAP.out.2
  · rcases List.mem_or_eq_of_mem_set he with h | h
    · exact HL2.out e h
    · rw [h, hes]; rfl
  · have hj' : (F.blocks.set b { (F.blk b) with code := x :: (F.blk b).code })[j]? = some B := hj
    by_cases e1 : j = b
    · subst e1
      rw [List.getElem?_set_self hb] at hj'
      rw [List.getElem?_set_self hbl2] at he
      simp only [Option.some.injEq] at hj' he
      subst hj' he
      rw [hes]
      exact ⟨_, _, rfl, hcode, hvt.mono monoInt (Bl.le HB6.out)⟩
    · rw [List.getElem?_set_ne (fun h => e1 h.symm)] at hj' he
      exact monoBlk _ _ _ _ (Bl.le HB6.out) (HL3.out j B e hj' he)
  · have hlset : ∀ e, e ∈ L.set b es → e.length = 4 := fun e he => by
      rcases List.mem_or_eq_of_mem_set he with h | h
      · exact HL2.out e h
      · rw [h, hes]; rfl
    obtain ⟨q, r, e, rfl, hr, hq, hu2⟩ := flat_of (by decide) hlset hu
    by_cases e1 : q = b
    · subst e1
      rw [List.getElem?_set_self hbl2] at hq
      simp only [Option.some.injEq] at hq
      subst hq
      by_cases e2 : r = 0
      · subst e2
        rw [hes] at hu2
        simp only [List.getElem?_cons_zero, Option.some.injEq] at hu2
        subst hu2
        rw [Nat.add_zero, Array.getElem?_setIfInBounds_self_of_lt HCZ.out]
      · rw [Array.getElem?_setIfInBounds_ne (by omega)]
        refine HCS.out _ _ ?_
        rw [List.nil_append, flat_get L HL2.out q r _ hLb hr, ees]
        rw [hes] at hu2
        rw [← hu2]
        match r, e2, hr with
        | 1, _, _ => rfl
        | 2, _, _ => rfl
        | 3, _, _ => rfl
    · rw [List.getElem?_set_ne (fun h => e1 h.symm)] at hq
      rw [Array.getElem?_setIfInBounds_ne (by omega)]
      refine HCS.out _ _ ?_
      rw [List.nil_append, flat_get L HL2.out q r _ hq hr]
      exact hu2
end Go.Proofs.YtdkjkgokllmkmaaGreatDoor.Lv
