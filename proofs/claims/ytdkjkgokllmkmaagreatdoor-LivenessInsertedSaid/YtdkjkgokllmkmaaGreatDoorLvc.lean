/- Walks: the small functions of the reference's layer 11. -/
import Derived.Test.YtdkjkgokllmkmaaGreatDoorLvb
namespace Go.Proofs.YtdkjkgokllmkmaaGreatDoor.Lv
open Go.RowKit
set_option linter.unusedVariables false
set_option linter.unusedSimpArgs false
theorem in_any (n l : Int) (w : World) :
    Calls Tryz.prog 40 #[.int .i64 n, .int .i64 l] w fun e w' => e = .returned (.bool (decide (0 ≤ n) && decide (n < l))) ∧ w' = w := by
  by_cases h : 0 ≤ n
  · go_enter Tryz.func40, Tryz.ntmps40
    go_wp2
    go_ret
    exact ⟨by simp [h], rfl⟩
  · have h' : n < 0 := by omega
    go_enter Tryz.func40, Tryz.ntmps40
    go_wp2
    go_ret
    exact ⟨by simp; omega, rfl⟩
theorem copyable_any (k i : Int) (v : Value) (w : World) :
    Calls Tryz.prog 59 #[.agg #[.int .i64 k, .int .i64 i, v]] w fun e w' => e = .returned (.bool (copyable k)) ∧ Below w.heap.size w w' := by
  unfold copyable
  by_cases h1 : k = 1
  · subst h1
    go_enter Tryz.func59, Tryz.ntmps59
    go_wp2
    go_ret
    exact ⟨by simp, (Below.refl _ _).alloc (Nat.le_refl _) _⟩
  · have h1' : (k == 1) = false := by simpa using h1
    by_cases h2 : k = 4
    · subst h2
      go_enter Tryz.func59, Tryz.ntmps59
      go_wp2
      go_ret
      exact ⟨by simp, (Below.refl _ _).alloc (Nat.le_refl _) _⟩
    · have h2' : (k == 4) = false := by simpa using h2
      go_enter Tryz.func59, Tryz.ntmps59
      go_wp2
      go_ret
      exact ⟨by simp [h1', h2'], (Below.refl _ _).alloc (Nat.le_refl _) _⟩
theorem local_any (v : Value) (F : Fn) (n : Int) (w : World) (hF : RFn w.cell? v F) :
    Calls Tryz.prog 60 #[v, .int .i64 n] w fun e w' => e = .returned (.bool (decide (0 ≤ n) && decide (n < F.locals.length))) ∧ Below w.heap.size w w' := by
  obtain ⟨mo, pa, ar, vb, vr, vl, vk, vt, Ab, At, nb, cb, nt, ct, rfl, rfl, rfl, m1, m2, ⟨Ar, kr, rfl, _⟩, ⟨Al, kl, rfl, h1, h2, hl⟩, ⟨Ak, kk, rfl, _⟩⟩ := hF
  go_enter Tryz.func60, Tryz.ntmps60
  go_wp2_with (go_at_call 40; refine (in_any _ _ _).mono ?_; rintro e w' ⟨rfl, rfl⟩)
  go_ret
  exact ⟨rfl, (Below.refl _ _).alloc (Nat.le_refl _) _⟩
theorem lent_any (a : Int) (s : Bool) (w : World) :
    Calls Tryz.prog 49 #[.int .i64 a, .bool s] w fun e w' => (∃ va, e = .returned (.agg (if s then #[.slice none 0 0, .slice none 0 0, va, .slice none 0 0, .slice none 0 0] else #[.slice none 0 0, .slice none 0 0, .slice none 0 0, va, .slice none 0 0])) ∧ RInts w'.cell? va [a]) ∧ Below w.heap.size w w' := by
  cases s
  · go_enter Tryz.func49, Tryz.ntmps49
    go_wp2
    refine bodyPost_ret (v := .agg #[.slice none 0 0, .slice none 0 0, .slice none 0 0, .slice (some ⟨w.heap.size + 1, 0, none⟩) 1 1, .slice none 0 0]) (by simp [results, Tryz.results49, go_sem]) rfl ?_
    exact ⟨⟨_, rfl, by simpa using rints_new1 (w.alloc _) a⟩, ((Below.refl _ _).alloc (Nat.le_refl _) _).alloc (by simp) _⟩
  · go_enter Tryz.func49, Tryz.ntmps49
    go_wp2
    refine bodyPost_ret (v := .agg #[.slice none 0 0, .slice none 0 0, .slice (some ⟨w.heap.size + 1, 0, none⟩) 1 1, .slice none 0 0, .slice none 0 0]) (by simp [results, Tryz.results49, go_sem]) rfl ?_
    exact ⟨⟨_, rfl, by simpa using rints_new1 (w.alloc _) a⟩, ((Below.refl _ _).alloc (Nat.le_refl _) _).alloc (by simp) _⟩
/-- The type of a local, as a value: its kind is what counts. -/
theorem of_any (v : Value) (F : Fn) (n : Int) (w : World) (hF : RFn w.cell? v F) :
    Calls Tryz.prog 50 #[v, .int .i64 n] w fun e w' => (∃ i va, e = .returned (.agg #[.int .i64 (kindOf F n), .int .i64 i, va])) ∧ Below w.heap.size w w' := by
  have HF0 := Lib.hid hF
  obtain ⟨mo, pa, ar, vb, vr, vl, vk, vt, Ab, At, nb, cb, nt, ct, rfl, rfl, rfl, m1, m2, ⟨Ar, kr, rfl, hr1, hr2, hr3⟩, ⟨Al, kl, rfl, h1, h2, hl⟩, ⟨Ak, kk, rfl, hk1, hk2, hk3⟩⟩ := hF
  clear hr3 hk3
  by_cases hn : 0 ≤ n ∧ n < F.locals.length
  · have hb : (decide (0 ≤ n) && decide (n < F.locals.length)) = true := by simpa using hn
    obtain ⟨n, rfl⟩ := Int.eq_ofNat_of_zero_le hn.1
    have hn1 : n < F.locals.length := by omega
    obtain ⟨ad, va, rfl, c0, c1, c2, ⟨A2, k2, rfl, _, _, _⟩⟩ := hl.ty_at n hn1
    have hk : kindOf F n = (F.locals.getD n default).kind := by unfold kindOf; rw [if_pos hn]; rfl
    have HB := Lib.hid hb
    have HK := Lib.hid hk
    clear hl hb hk hn h1 h2
    go_enter Tryz.func50, Tryz.ntmps50
    go_wp2_with fail
    refine (local_any _ F _ _ (HF0.out.mono (Bl.le (by repeat (first | exact Below.refl _ _ | apply Bl.alloc))))).mono ?_
    rintro e w1 ⟨rfl, hb1⟩
    rw [HB.out]
    obtain ⟨hc, hf⟩ := bcell hb1
    have HB1 := Lib.hid hb1
    clear hb1
    have d0 := Bl.le (Bl.call (by repeat (first | exact Below.refl w.heap.size w | apply Bl.alloc)) HB1.out) _ _ c0
    have d1 := Bl.le (Bl.call (by repeat (first | exact Below.refl w.heap.size w | apply Bl.alloc)) HB1.out) _ _ c1
    have d2 := Bl.le (Bl.call (by repeat (first | exact Below.refl w.heap.size w | apply Bl.alloc)) HB1.out) _ _ c2
    clear c0 c1 c2
    go_wp2
    refine bodyPost_ret (v := .agg #[.int .i64 (F.locals.getD n default).kind, .int .i64 (F.locals.getD n default).id, .slice A2 (F.locals.getD n default).args.length k2]) (by simp [results, Tryz.results50, go_sem, hc, hf, hn1]) rfl ?_
    exact ⟨⟨_, _, by rw [HK.out]⟩, Bl.set (Bl.set (Bl.set (Bl.call (by repeat (first | exact Below.refl w.heap.size w | apply Bl.alloc)) HB1.out) (by simp) _) (by simp) _) (by simp) _⟩
  · have hb : (decide (0 ≤ n) && decide (n < F.locals.length)) = false := by
      simpa using fun h0 => by omega
    have hk : kindOf F n = 0 := if_neg hn
    have HB := Lib.hid hb
    have HK := Lib.hid hk
    clear hl hb hk hn h1 h2
    go_enter Tryz.func50, Tryz.ntmps50
    go_wp2_with fail
    refine (local_any _ F _ _ (HF0.out.mono (Bl.le (by repeat (first | exact Below.refl _ _ | apply Bl.alloc))))).mono ?_
    rintro e w1 ⟨rfl, hb1⟩
    rw [HB.out]
    obtain ⟨hc, hf⟩ := bcell hb1
    have HB1 := Lib.hid hb1
    clear hb1
    go_wp2
    refine bodyPost_ret (v := .agg #[.int .i64 0, .int .i64 0, .slice none 0 0]) (by simp [results, Tryz.results50, go_sem, hc, hf]) rfl ?_
    exact ⟨⟨_, _, by rw [HK.out]⟩, Bl.set (Bl.set (Bl.set (Bl.call (by repeat (first | exact Below.refl w.heap.size w | apply Bl.alloc)) HB1.out) (by simp) _) (by simp) _) (by simp) _⟩
end Go.Proofs.YtdkjkgokllmkmaaGreatDoor.Lv
