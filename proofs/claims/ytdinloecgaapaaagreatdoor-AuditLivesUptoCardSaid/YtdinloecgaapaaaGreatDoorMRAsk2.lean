/- The closures of Register.ask, further. Register.ask: what is wrong first with an act. -/
import Derived.Test.YtdinloecgaapaaaGreatDoorMRSome
import Derived.Test.YtdinloecgaapaaaGreatDoorMRNum
import Derived.Test.YtdinloecgaapaaaGreatDoorMRBox
namespace Go.Proofs.YtdinloecgaapaaaGreatDoor
open Go.RowKit Go.Maps Go.Lib
set_option linter.unusedVariables false
set_option maxRecDepth 100000

set_option maxHeartbeats 4000000 in
theorem ask61_r (base e q p : Nat) (x : En) (o : Or) (a : Ac8) (w : World) (hq : AtA w q a) (hp : w.cell? ⟨p, 0, none⟩ = some (.pointer (some ⟨e, 0, none⟩))) (hE : EnAt w base e x) (ho : ChOk w base o) (hn : o.n ≤ 1000000) :
    Calls Tryz.prog 117 (#[.agg (orcA o)] ++ #[.pointer (some ⟨q, 0, none⟩), .pointer (some ⟨p, 0, none⟩)]) w fun e w' => CkP (fun _ => True) w e w' := by
  have c5 : w.cell? ⟨q, 5, none⟩ = some (.int .i64 a.day) := hq.cell 5
  have e7 : w.cell? ⟨e, 7, none⟩ = some (.int .i64 x.is) := hE.cell 7
  obtain ⟨d, hd⟩ := last_r base o x.is w ho hn
  have hb1 : Below w.heap.size w (w.alloc (.cells (orcA o) 129)) := (Below.refl _ _).alloc (Nat.le_refl _) _
  have hz : (w.alloc (.cells (orcA o) 129)).heap.size = w.heap.size + 1 := by simp
  have hlt : ∀ {t : Nat} {j : Nat} {v : Value}, w.cell? ⟨t, j, none⟩ = some v → t < w.heap.size := fun h => block_lt_of_cell h
  have key : ∀ {t j : Nat} {v : Value}, w.cell? ⟨t, j, none⟩ = some v → ∀ n : WC (w.alloc (.cells (orcA o) 129)).heap.size (w.alloc (.cells (orcA o) 129)), n.w.cell? ⟨t, j, none⟩ = some v := fun {t j v} h n => (n.h.cell (p := ⟨t, j, none⟩) (by have := hlt h; show t < _; omega)).trans ((hb1.cell (p := ⟨t, j, none⟩) (hlt h)).trans h)
  have own : ∀ (j : Nat) v, (orcA o)[j]? = some v → ∀ n : WC (w.alloc (.cells (orcA o) 129)).heap.size (w.alloc (.cells (orcA o) 129)), n.w.cell? ⟨w.heap.size, j, none⟩ = some v := fun j v h n => (n.h.cell (p := ⟨w.heap.size, j, none⟩) (by show w.heap.size < _; omega)).trans (by simp [h])
  have d5 := key c5
  have dp := key hp
  have d7 := key e7
  have o0 := own 0 (.int .i64 o.s) rfl
  have o1 := own 1 (.string o.h) rfl
  have o2 := own 2 (.slice o.A o.n o.c) rfl
  have HD := Lib.hid (fun n : WC (w.alloc (.cells (orcA o) 129)).heap.size (w.alloc (.cells (orcA o) 129)) => hd n.w (hb1.trans (n.h.mono (by omega))))
  have HF : Hid (∀ (n : WC (w.alloc (.cells (orcA o) 129)).heap.size (w.alloc (.cells (orcA o) 129))) (r : Bool), CkP (fun _ => True) w (.returned (.bool r)) n.w) := Lib.hid (fun n r => ⟨r, rfl, trivial, hb1.trans (n.h.mono (by omega))⟩)
  generalize CkP (fun _ => True) w = CP at *
  clear hb1 hq hE ho hd key own hlt c5 hp e7 hz
  unfold orcA at *
  show Calls Tryz.prog 117 #[.agg #[.int .i64 o.s, .string o.h, .slice o.A o.n o.c], .pointer (some ⟨q, 0, none⟩), .pointer (some ⟨p, 0, none⟩)] w CP
  go_enter Tryz.func117, Tryz.ntmps117
  go_wp2_with fail
  refine wp_region_class (by kernel_rfl) (by kernel_rfl) ?_
  repeat (go_big_quiet_step ((exact Calls.class_of (Nat.le_refl _) (HD.out _))))
  refine wpQuiet_nil ?_
  rintro w' ⟨n, rfl⟩
  have HF' := Lib.hid (HF.out n)
  clear d5 dp d7 o0 o1 o2 HD HF
  generalize n.w = w3 at *
  go_wp2_with fail
  first
    | exact HF'.out _
    | (go_ret; exact HF'.out _)
/-- ask$1: is there no such bill? -/
theorem ask1_r (p : Nat) (v : Option Nat) (w : World) (hp : w.cell? ⟨p, 0, none⟩ = some (ptV v)) :
    Calls Tryz.prog 108 #[.pointer (some ⟨p, 0, none⟩)] w fun e w' => CkP (fun r => r = false → v ≠ none) w e w' := by
  cases v with
  | none =>
    have hp' : w.cell? ⟨p, 0, none⟩ = some (.pointer none) := hp
    have HF : Hid (CkP (fun r => r = false → (none : Option Nat) ≠ none) w (.returned (.bool true)) w) := Lib.hid ⟨true, rfl, fun h => (by cases h), Below.refl _ _⟩
    generalize CkP (fun r => r = false → (none : Option Nat) ≠ none) w = CP at *
    clear hp
    go_enter Tryz.func108, Tryz.ntmps108
    go_wp2_with fail
    first
      | exact HF.out
      | (go_ret; exact HF.out)
  | some e =>
    have hp' : w.cell? ⟨p, 0, none⟩ = some (.pointer (some ⟨e, 0, none⟩)) := hp
    have HF : Hid (CkP (fun r => r = false → (some e : Option Nat) ≠ none) w (.returned (.bool false)) w) := Lib.hid ⟨false, rfl, fun _ h => (by cases h), Below.refl _ _⟩
    generalize CkP (fun r => r = false → (some e : Option Nat) ≠ none) w = CP at *
    clear hp
    go_enter Tryz.func108, Tryz.ntmps108
    go_wp2_with fail
    first
      | exact HF.out
      | (go_ret; exact HF.out)
/-- ask$2: is the index out of range? -/
theorem ask2_r (q : Nat) (a : Ac8) (w : World) (hq : AtA w q a) :
    Calls Tryz.prog 109 #[.pointer (some ⟨q, 0, none⟩)] w fun e w' => CkP (fun r => r = false → a.le ≤ a.ix ∧ a.ix < 3) w e w' := by
  have c1 : w.cell? ⟨q, 1, none⟩ = some (.int .i64 a.ix) := hq.cell 1
  have c2 : w.cell? ⟨q, 2, none⟩ = some (.int .i64 a.le) := hq.cell 2
  have HT : Hid (CkP (fun r => r = false → a.le ≤ a.ix ∧ a.ix < 3) w (.returned (.bool true)) w) := Lib.hid ⟨true, rfl, fun h => (by cases h), Below.refl _ _⟩
  have HN : Hid ((a.le ≤ a.ix ∧ a.ix < 3) → CkP (fun r => r = false → a.le ≤ a.ix ∧ a.ix < 3) w (.returned (.bool false)) w) := Lib.hid (fun h => ⟨false, rfl, fun _ => h, Below.refl _ _⟩)
  generalize CkP (fun r => r = false → a.le ≤ a.ix ∧ a.ix < 3) w = CP at *
  clear hq
  generalize a.le = le at *
  generalize a.ix = ix at *
  by_cases h1 : ix < le
  · have b1 : decide (ix < le) = true := by simpa using h1
    go_enter Tryz.func109, Tryz.ntmps109
    go_wp2_with fail
    first
      | exact HT.out
      | (go_ret; exact HT.out)
  · have b1 : decide (ix < le) = false := by simpa using h1
    by_cases h2 : (3 : Int) ≤ ix
    · go_enter Tryz.func109, Tryz.ntmps109
      go_wp2_with fail
      first
        | exact HT.out
        | (go_ret; exact HT.out)
    · have HN' := Lib.hid (HN.out ⟨by omega, by omega⟩)
      go_enter Tryz.func109, Tryz.ntmps109
      go_wp2_with fail
      first
        | exact HN'.out
        | (go_ret; exact HN'.out)
/-- ask$3: is an argument wrong? -/
theorem ask3_r (q : Nat) (a : Ac8) (w : World) (hq : AtA w q a) :
    Calls Tryz.prog 110 #[.pointer (some ⟨q, 0, none⟩)] w fun e w' => CkP (fun _ => True) w e w' := by
  have c5 : w.cell? ⟨q, 5, none⟩ = some (.int .i64 a.day) := hq.cell 5
  have c6 : w.cell? ⟨q, 6, none⟩ = some (.bool a.dt) := hq.cell 6
  have c7 : w.cell? ⟨q, 7, none⟩ = some (.bool a.wr) := hq.cell 7
  have HT : Hid (∀ (r : Bool) W, Below w.heap.size w W → CkP (fun _ => True) w (.returned (.bool r)) W) := Lib.hid (fun r W hb => ⟨r, rfl, trivial, hb⟩)
  have HD := Lib.hid (isDay_r a.day w)
  generalize CkP (fun _ => True) w = CP at *
  clear hq
  cases hw : a.wr with
  | true =>
    rw [hw] at c7
    go_enter Tryz.func110, Tryz.ntmps110
    go_wp2_with fail
    first
      | exact HT.out _ _ (Below.refl _ _)
      | (go_ret; exact HT.out _ _ (Below.refl _ _))
  | false =>
    rw [hw] at c7
    cases hd : a.dt with
    | false =>
      rw [hd] at c6
      go_enter Tryz.func110, Tryz.ntmps110
      go_wp2_with fail
      first
        | exact HT.out _ _ (Below.refl _ _)
        | (go_ret; exact HT.out _ _ (Below.refl _ _))
    | true =>
      rw [hd] at c6
      go_enter Tryz.func110, Tryz.ntmps110
      go_wp2_with (first
        | (go_at_call 102; refine HD.out.mono ?_; rintro en w2 ⟨rb, rfl, _, hb2⟩; have HB2 := Lib.hid hb2; clear hb2)
        | fail)
      all_goals
        first
          | exact HT.out _ _ HB2.out
          | (go_ret; exact HT.out _ _ HB2.out)
end Go.Proofs.YtdinloecgaapaaaGreatDoor
namespace Go.Proofs.YtdinloecgaapaaaGreatDoor
open Go.RowKit Go.Maps Go.Lib
set_option linter.unusedVariables false
set_option maxRecDepth 100000

theorem ask4_r (base e q p : Nat) (x : En) (a : Ac8) (w : World) (hq : AtA w q a) (hp : w.cell? ⟨p, 0, none⟩ = some (.pointer (some ⟨e, 0, none⟩))) (hE : EnAt w base e x) :
    Calls Tryz.prog 111 #[.pointer (some ⟨p, 0, none⟩), .pointer (some ⟨q, 0, none⟩)] w fun en w' => CkP (fun _ => True) w en w' := by
  have e9 : w.cell? ⟨e, 9, none⟩ = some (.int .i64 x.s) := hE.cell 9
  have c1 : w.cell? ⟨q, 1, none⟩ = some (.int .i64 a.ix) := hq.cell 1
  have HS := Lib.hid (some_r base e x a.ix 113 #[.pointer (some ⟨q, 0, none⟩)] w hE (enters_of Tryz.func113 (by kernel_rfl) rfl) (fun i _ W hb => ask41_r (x.o i) q a W (hq.below hb)))
  have HT : Hid (∀ (r : Bool) W, Below w.heap.size w W → CkP (fun _ => True) w (.returned (.bool r)) W) := Lib.hid (fun r W hb => ⟨r, rfl, trivial, hb⟩)
  generalize CkP (fun _ => True) w = CP at *
  clear hq hE
  generalize a.ix = ix at *
  by_cases hs : x.s = 0
  · rw [hs] at e9
    go_enter Tryz.func111, Tryz.ntmps111
    go_wp2_with (first
      | (go_at_call 112; refine HS.out.mono ?_; rintro en w2 ⟨rb, rfl, hb2⟩; have HB2 := Lib.hid hb2; clear hb2)
      | fail)
    all_goals
      first
        | exact HT.out _ _ HB2.out
        | (go_ret; exact HT.out _ _ HB2.out)
  · have b1 : (x.s == 0) = false := by simpa using hs
    generalize x.s = st at *
    go_enter Tryz.func111, Tryz.ntmps111
    go_wp2_with fail
    all_goals
      first
        | exact HT.out _ _ (Below.refl _ _)
        | (go_ret; exact HT.out _ _ (Below.refl _ _))
theorem ask5_r (base e q p : Nat) (x : En) (a : Ac8) (w : World) (hq : AtA w q a) (hp : w.cell? ⟨p, 0, none⟩ = some (.pointer (some ⟨e, 0, none⟩))) (hE : EnAt w base e x) :
    Calls Tryz.prog 114 #[.pointer (some ⟨p, 0, none⟩), .pointer (some ⟨q, 0, none⟩)] w fun en w' => CkP (fun _ => True) w en w' := by
  have c1 : w.cell? ⟨q, 1, none⟩ = some (.int .i64 a.ix) := hq.cell 1
  have HS := Lib.hid (some_r base e x a.ix 115 #[.pointer (some ⟨q, 0, none⟩)] w hE (enters_of Tryz.func115 (by kernel_rfl) rfl) (fun i _ W hb => ask51_r (x.o i) q a W (hq.below hb)))
  have HT : Hid (∀ (r : Bool) W, Below w.heap.size w W → CkP (fun _ => True) w (.returned (.bool r)) W) := Lib.hid (fun r W hb => ⟨r, rfl, trivial, hb⟩)
  generalize CkP (fun _ => True) w = CP at *
  clear hq hE
  generalize a.ix = ix at *
  go_enter Tryz.func114, Tryz.ntmps114
  go_wp2_with (first
    | (go_at_call 112; refine HS.out.mono ?_; rintro en w2 ⟨rb, rfl, hb2⟩; have HB2 := Lib.hid hb2; clear hb2)
    | fail)
  all_goals
    first
      | exact HT.out _ _ HB2.out
      | (go_ret; exact HT.out _ _ HB2.out)
theorem ask6_r (base e q p : Nat) (x : En) (a : Ac8) (w : World) (hq : AtA w q a) (hp : w.cell? ⟨p, 0, none⟩ = some (.pointer (some ⟨e, 0, none⟩))) (hE : EnAt w base e x) (hn : ∀ i, i < 3 → (x.o i).n ≤ 1000000) :
    Calls Tryz.prog 116 #[.pointer (some ⟨q, 0, none⟩), .pointer (some ⟨p, 0, none⟩)] w fun en w' => CkP (fun _ => True) w en w' := by
  have c1 : w.cell? ⟨q, 1, none⟩ = some (.int .i64 a.ix) := hq.cell 1
  have c6 : w.cell? ⟨q, 6, none⟩ = some (.bool a.dt) := hq.cell 6
  have HS := Lib.hid (some_r base e x a.ix 117 #[.pointer (some ⟨q, 0, none⟩), .pointer (some ⟨p, 0, none⟩)] w hE (enters_of Tryz.func117 (by kernel_rfl) rfl) (fun i hi W hb => ask61_r base e q p x (x.o i) a W (hq.below hb) ((hb.cell (block_lt_of_cell hp)).trans hp) (hE.below hb) ((hE.ch i hi).below hb) (hn i hi)))
  have HT : Hid (∀ (r : Bool) W, Below w.heap.size w W → CkP (fun _ => True) w (.returned (.bool r)) W) := Lib.hid (fun r W hb => ⟨r, rfl, trivial, hb⟩)
  generalize CkP (fun _ => True) w = CP at *
  clear hq hE
  generalize a.ix = ix at *
  cases hd : a.dt with
  | true =>
    rw [hd] at c6
    go_enter Tryz.func116, Tryz.ntmps116
    go_wp2_with (first
      | (go_at_call 112; refine HS.out.mono ?_; rintro en w2 ⟨rb, rfl, hb2⟩; have HB2 := Lib.hid hb2; clear hb2)
      | fail)
    all_goals
      first
        | exact HT.out _ _ HB2.out
        | (go_ret; exact HT.out _ _ HB2.out)
  | false =>
    rw [hd] at c6
    go_enter Tryz.func116, Tryz.ntmps116
    go_wp2_with fail
    all_goals
      first
        | exact HT.out _ _ (Below.refl _ _)
        | (go_ret; exact HT.out _ _ (Below.refl _ _))
end Go.Proofs.YtdinloecgaapaaaGreatDoor
