/- The closures of Register.ask, further. Register.ask: what is wrong first with an act. Register.ask, whole. -/
import Derived.Test.YtdinloecgaapaaaGreatDoorMROrig
import Derived.Test.YtdinloecgaapaaaGreatDoorMRNum
import Derived.Test.YtdinloecgaapaaaGreatDoorMRBox
namespace Go.Proofs.YtdinloecgaapaaaGreatDoor
open Go.RowKit Go.Maps Go.Lib
set_option linter.unusedVariables false
set_option maxRecDepth 100000

set_option maxHeartbeats 4000000 in
theorem ask61_r (base e q p : Nat) (x : En) (o : Or) (a : Ac8) (w : World) (hq : AtA w q a) (hp : w.cell? ⟨p, 0, none⟩ = some (.pointer (some ⟨e, 0, none⟩))) (hE : EnAt w base e x) (ho : ChOk w base o) (hn : o.n ≤ 1000000) :
    Calls Tryz.prog 117 (#[.agg (orcA o)] ++ #[.pointer (some ⟨q, 0, none⟩), .pointer (some ⟨p, 0, none⟩)]) w fun e w' => CkP (fun _ => True) w e w' := by
  have c5 : w.cell? ⟨q, 5, none⟩ = some (.int .i64 a.day) := hq.cell 5
  have e7 : w.cell? ⟨e, 7, none⟩ = some (.int .i64 x.is) := hE.cell 7
  obtain ⟨d, hd⟩ := last_r base o x.is w ho hn
  have hb1 : Below w.heap.size w (w.alloc (.cells (orcA o) 129)) := (Below.refl _ _).alloc (Nat.le_refl _) _
  have hz : (w.alloc (.cells (orcA o) 129)).heap.size = w.heap.size + 1 := by simp
  have hlt : ∀ {t : Nat} {j : Nat} {v : Value}, w.cell? ⟨t, j, none⟩ = some v → t < w.heap.size := fun h => block_lt_of_cell h
  have key : ∀ {t j : Nat} {v : Value}, w.cell? ⟨t, j, none⟩ = some v → ∀ n : WC (w.alloc (.cells (orcA o) 129)).heap.size (w.alloc (.cells (orcA o) 129)), n.w.cell? ⟨t, j, none⟩ = some v := fun {t j v} h n => (n.h.cell (p := ⟨t, j, none⟩) (by have := hlt h; show t < _; omega)).trans ((hb1.cell (p := ⟨t, j, none⟩) (hlt h)).trans h)
  have own : ∀ (j : Nat) v, (orcA o)[j]? = some v → ∀ n : WC (w.alloc (.cells (orcA o) 129)).heap.size (w.alloc (.cells (orcA o) 129)), n.w.cell? ⟨w.heap.size, j, none⟩ = some v := fun j v h n => (n.h.cell (p := ⟨w.heap.size, j, none⟩) (by show w.heap.size < _; omega)).trans (by simp [h])
  have d5 := key c5
  have dp := key hp
  have d7 := key e7
  have o0 := own 0 (.int .i64 o.s) rfl
  have o1 := own 1 (.string o.h) rfl
  have o2 := own 2 (.slice o.A o.n o.c) rfl
  have HD := Lib.hid (fun n : WC (w.alloc (.cells (orcA o) 129)).heap.size (w.alloc (.cells (orcA o) 129)) => hd n.w (hb1.trans (n.h.mono (by omega))))
  have HF : Hid (∀ (n : WC (w.alloc (.cells (orcA o) 129)).heap.size (w.alloc (.cells (orcA o) 129))) (r : Bool), CkP (fun _ => True) w (.returned (.bool r)) n.w) := Lib.hid (fun n r => ⟨r, rfl, trivial, hb1.trans (n.h.mono (by omega))⟩)
  generalize CkP (fun _ => True) w = CP at *
  clear hb1 hq hE ho hd key own hlt c5 hp e7 hz
  unfold orcA at *
  show Calls Tryz.prog 117 #[.agg #[.int .i64 o.s, .string o.h, .slice o.A o.n o.c], .pointer (some ⟨q, 0, none⟩), .pointer (some ⟨p, 0, none⟩)] w CP
  go_enter Tryz.func117, Tryz.ntmps117
  go_wp2_with fail
  refine wp_region_class (by kernel_rfl) (by kernel_rfl) ?_
  repeat (go_big_quiet_step ((exact Calls.class_of (Nat.le_refl _) (HD.out _))))
  refine wpQuiet_nil ?_
  rintro w' ⟨n, rfl⟩
  have HF' := Lib.hid (HF.out n)
  clear d5 dp d7 o0 o1 o2 HD HF
  generalize n.w = w3 at *
  go_wp2_with fail
  first
    | exact HF'.out _
    | (go_ret; exact HF'.out _)
/-- ask$1: is there no such bill? -/
theorem ask1_r (p : Nat) (v : Option Nat) (w : World) (hp : w.cell? ⟨p, 0, none⟩ = some (ptV v)) :
    Calls Tryz.prog 108 #[.pointer (some ⟨p, 0, none⟩)] w fun e w' => CkP (fun r => r = false → v ≠ none) w e w' := by
  cases v with
  | none =>
    have hp' : w.cell? ⟨p, 0, none⟩ = some (.pointer none) := hp
    have HF : Hid (CkP (fun r => r = false → (none : Option Nat) ≠ none) w (.returned (.bool true)) w) := Lib.hid ⟨true, rfl, fun h => (by cases h), Below.refl _ _⟩
    generalize CkP (fun r => r = false → (none : Option Nat) ≠ none) w = CP at *
    clear hp
    go_enter Tryz.func108, Tryz.ntmps108
    go_wp2_with fail
    first
      | exact HF.out
      | (go_ret; exact HF.out)
  | some e =>
    have hp' : w.cell? ⟨p, 0, none⟩ = some (.pointer (some ⟨e, 0, none⟩)) := hp
    have HF : Hid (CkP (fun r => r = false → (some e : Option Nat) ≠ none) w (.returned (.bool false)) w) := Lib.hid ⟨false, rfl, fun _ h => (by cases h), Below.refl _ _⟩
    generalize CkP (fun r => r = false → (some e : Option Nat) ≠ none) w = CP at *
    clear hp
    go_enter Tryz.func108, Tryz.ntmps108
    go_wp2_with fail
    first
      | exact HF.out
      | (go_ret; exact HF.out)
/-- ask$2: is the index out of range? -/
theorem ask2_r (q : Nat) (a : Ac8) (w : World) (hq : AtA w q a) :
    Calls Tryz.prog 109 #[.pointer (some ⟨q, 0, none⟩)] w fun e w' => CkP (fun r => r = false → a.le ≤ a.ix ∧ a.ix < 3) w e w' := by
  have c1 : w.cell? ⟨q, 1, none⟩ = some (.int .i64 a.ix) := hq.cell 1
  have c2 : w.cell? ⟨q, 2, none⟩ = some (.int .i64 a.le) := hq.cell 2
  have HT : Hid (CkP (fun r => r = false → a.le ≤ a.ix ∧ a.ix < 3) w (.returned (.bool true)) w) := Lib.hid ⟨true, rfl, fun h => (by cases h), Below.refl _ _⟩
  have HN : Hid ((a.le ≤ a.ix ∧ a.ix < 3) → CkP (fun r => r = false → a.le ≤ a.ix ∧ a.ix < 3) w (.returned (.bool false)) w) := Lib.hid (fun h => ⟨false, rfl, fun _ => h, Below.refl _ _⟩)
  generalize CkP (fun r => r = false → a.le ≤ a.ix ∧ a.ix < 3) w = CP at *
  clear hq
  generalize a.le = le at *
  generalize a.ix = ix at *
  by_cases h1 : ix < le
  · have b1 : decide (ix < le) = true := by simpa using h1
    go_enter Tryz.func109, Tryz.ntmps109
    go_wp2_with fail
    first
      | exact HT.out
      | (go_ret; exact HT.out)
  · have b1 : decide (ix < le) = false := by simpa using h1
    by_cases h2 : (3 : Int) ≤ ix
    · go_enter Tryz.func109, Tryz.ntmps109
      go_wp2_with fail
      first
        | exact HT.out
        | (go_ret; exact HT.out)
    · have HN' := Lib.hid (HN.out ⟨by omega, by omega⟩)
      go_enter Tryz.func109, Tryz.ntmps109
      go_wp2_with fail
      first
        | exact HN'.out
        | (go_ret; exact HN'.out)
/-- ask$3: is an argument wrong? -/
theorem ask3_r (q : Nat) (a : Ac8) (w : World) (hq : AtA w q a) :
    Calls Tryz.prog 110 #[.pointer (some ⟨q, 0, none⟩)] w fun e w' => CkP (fun _ => True) w e w' := by
  have c5 : w.cell? ⟨q, 5, none⟩ = some (.int .i64 a.day) := hq.cell 5
  have c6 : w.cell? ⟨q, 6, none⟩ = some (.bool a.dt) := hq.cell 6
  have c7 : w.cell? ⟨q, 7, none⟩ = some (.bool a.wr) := hq.cell 7
  have HT : Hid (∀ (r : Bool) W, Below w.heap.size w W → CkP (fun _ => True) w (.returned (.bool r)) W) := Lib.hid (fun r W hb => ⟨r, rfl, trivial, hb⟩)
  have HD := Lib.hid (isDay_r a.day w)
  generalize CkP (fun _ => True) w = CP at *
  clear hq
  cases hw : a.wr with
  | true =>
    rw [hw] at c7
    go_enter Tryz.func110, Tryz.ntmps110
    go_wp2_with fail
    first
      | exact HT.out _ _ (Below.refl _ _)
      | (go_ret; exact HT.out _ _ (Below.refl _ _))
  | false =>
    rw [hw] at c7
    cases hd : a.dt with
    | false =>
      rw [hd] at c6
      go_enter Tryz.func110, Tryz.ntmps110
      go_wp2_with fail
      first
        | exact HT.out _ _ (Below.refl _ _)
        | (go_ret; exact HT.out _ _ (Below.refl _ _))
    | true =>
      rw [hd] at c6
      go_enter Tryz.func110, Tryz.ntmps110
      go_wp2_with (first
        | (go_at_call 102; refine HD.out.mono ?_; rintro en w2 ⟨rb, rfl, _, hb2⟩; have HB2 := Lib.hid hb2; clear hb2)
        | fail)
      all_goals
        first
          | exact HT.out _ _ HB2.out
          | (go_ret; exact HT.out _ _ HB2.out)
end Go.Proofs.YtdinloecgaapaaaGreatDoor
namespace Go.Proofs.YtdinloecgaapaaaGreatDoor
open Go.RowKit Go.Maps Go.Lib
set_option linter.unusedVariables false
set_option maxRecDepth 100000

theorem ask4_r (base e q p : Nat) (x : En) (a : Ac8) (w : World) (hq : AtA w q a) (hp : w.cell? ⟨p, 0, none⟩ = some (.pointer (some ⟨e, 0, none⟩))) (hE : EnAt w base e x) :
    Calls Tryz.prog 111 #[.pointer (some ⟨p, 0, none⟩), .pointer (some ⟨q, 0, none⟩)] w fun en w' => CkP (fun _ => True) w en w' := by
  have e9 : w.cell? ⟨e, 9, none⟩ = some (.int .i64 x.s) := hE.cell 9
  have c1 : w.cell? ⟨q, 1, none⟩ = some (.int .i64 a.ix) := hq.cell 1
  have HS := Lib.hid (some_r base e x a.ix 113 #[.pointer (some ⟨q, 0, none⟩)] w hE (enters_of Tryz.func113 (by kernel_rfl) rfl) (fun i _ W hb => ask41_r (x.o i) q a W (hq.below hb)))
  have HT : Hid (∀ (r : Bool) W, Below w.heap.size w W → CkP (fun _ => True) w (.returned (.bool r)) W) := Lib.hid (fun r W hb => ⟨r, rfl, trivial, hb⟩)
  generalize CkP (fun _ => True) w = CP at *
  clear hq hE
  generalize a.ix = ix at *
  by_cases hs : x.s = 0
  · rw [hs] at e9
    go_enter Tryz.func111, Tryz.ntmps111
    go_wp2_with (first
      | (go_at_call 112; refine HS.out.mono ?_; rintro en w2 ⟨rb, rfl, hb2⟩; have HB2 := Lib.hid hb2; clear hb2)
      | fail)
    all_goals
      first
        | exact HT.out _ _ HB2.out
        | (go_ret; exact HT.out _ _ HB2.out)
  · have b1 : (x.s == 0) = false := by simpa using hs
    generalize x.s = st at *
    go_enter Tryz.func111, Tryz.ntmps111
    go_wp2_with fail
    all_goals
      first
        | exact HT.out _ _ (Below.refl _ _)
        | (go_ret; exact HT.out _ _ (Below.refl _ _))
theorem ask5_r (base e q p : Nat) (x : En) (a : Ac8) (w : World) (hq : AtA w q a) (hp : w.cell? ⟨p, 0, none⟩ = some (.pointer (some ⟨e, 0, none⟩))) (hE : EnAt w base e x) :
    Calls Tryz.prog 114 #[.pointer (some ⟨p, 0, none⟩), .pointer (some ⟨q, 0, none⟩)] w fun en w' => CkP (fun _ => True) w en w' := by
  have c1 : w.cell? ⟨q, 1, none⟩ = some (.int .i64 a.ix) := hq.cell 1
  have HS := Lib.hid (some_r base e x a.ix 115 #[.pointer (some ⟨q, 0, none⟩)] w hE (enters_of Tryz.func115 (by kernel_rfl) rfl) (fun i _ W hb => ask51_r (x.o i) q a W (hq.below hb)))
  have HT : Hid (∀ (r : Bool) W, Below w.heap.size w W → CkP (fun _ => True) w (.returned (.bool r)) W) := Lib.hid (fun r W hb => ⟨r, rfl, trivial, hb⟩)
  generalize CkP (fun _ => True) w = CP at *
  clear hq hE
  generalize a.ix = ix at *
  go_enter Tryz.func114, Tryz.ntmps114
  go_wp2_with (first
    | (go_at_call 112; refine HS.out.mono ?_; rintro en w2 ⟨rb, rfl, hb2⟩; have HB2 := Lib.hid hb2; clear hb2)
    | fail)
  all_goals
    first
      | exact HT.out _ _ HB2.out
      | (go_ret; exact HT.out _ _ HB2.out)
theorem ask6_r (base e q p : Nat) (x : En) (a : Ac8) (w : World) (hq : AtA w q a) (hp : w.cell? ⟨p, 0, none⟩ = some (.pointer (some ⟨e, 0, none⟩))) (hE : EnAt w base e x) (hn : ∀ i, i < 3 → (x.o i).n ≤ 1000000) :
    Calls Tryz.prog 116 #[.pointer (some ⟨q, 0, none⟩), .pointer (some ⟨p, 0, none⟩)] w fun en w' => CkP (fun _ => True) w en w' := by
  have c1 : w.cell? ⟨q, 1, none⟩ = some (.int .i64 a.ix) := hq.cell 1
  have c6 : w.cell? ⟨q, 6, none⟩ = some (.bool a.dt) := hq.cell 6
  have HS := Lib.hid (some_r base e x a.ix 117 #[.pointer (some ⟨q, 0, none⟩), .pointer (some ⟨p, 0, none⟩)] w hE (enters_of Tryz.func117 (by kernel_rfl) rfl) (fun i hi W hb => ask61_r base e q p x (x.o i) a W (hq.below hb) ((hb.cell (block_lt_of_cell hp)).trans hp) (hE.below hb) ((hE.ch i hi).below hb) (hn i hi)))
  have HT : Hid (∀ (r : Bool) W, Below w.heap.size w W → CkP (fun _ => True) w (.returned (.bool r)) W) := Lib.hid (fun r W hb => ⟨r, rfl, trivial, hb⟩)
  generalize CkP (fun _ => True) w = CP at *
  clear hq hE
  generalize a.ix = ix at *
  cases hd : a.dt with
  | true =>
    rw [hd] at c6
    go_enter Tryz.func116, Tryz.ntmps116
    go_wp2_with (first
      | (go_at_call 112; refine HS.out.mono ?_; rintro en w2 ⟨rb, rfl, hb2⟩; have HB2 := Lib.hid hb2; clear hb2)
      | fail)
    all_goals
      first
        | exact HT.out _ _ HB2.out
        | (go_ret; exact HT.out _ _ HB2.out)
  | false =>
    rw [hd] at c6
    go_enter Tryz.func116, Tryz.ntmps116
    go_wp2_with fail
    all_goals
      first
        | exact HT.out _ _ (Below.refl _ _)
        | (go_ret; exact HT.out _ _ (Below.refl _ _))
end Go.Proofs.YtdinloecgaapaaaGreatDoor
namespace Go.Proofs.YtdinloecgaapaaaGreatDoor
open Go.RowKit Go.Maps Go.Lib
set_option linter.unusedVariables false
set_option maxRecDepth 100000

/-- what stands where nothing is wrong -/
def AskOk (a : Ac8) (G : ByteArray → Option (Option Nat)) : Prop := (∃ e, G a.b = some (some e)) ∧ a.le ≤ a.ix ∧ a.ix < 3
def AskP (a : Ac8) (G : ByteArray → Option (Option Nat)) (w : World) (en : Ending) (w' : World) : Prop := ∃ code : Int, en = .returned (.int .i64 code) ∧ (code = 0 → AskOk a G) ∧ Below w.heap.size w w'
/-- the six checks -/
def six (p q : Nat) : List Ck := [⟨4, 108, #[.pointer (some ⟨p, 0, none⟩)]⟩, ⟨3, 109, #[.pointer (some ⟨q, 0, none⟩)]⟩, ⟨1, 110, #[.pointer (some ⟨q, 0, none⟩)]⟩,
  ⟨9, 111, #[.pointer (some ⟨p, 0, none⟩), .pointer (some ⟨q, 0, none⟩)]⟩, ⟨8, 114, #[.pointer (some ⟨p, 0, none⟩), .pointer (some ⟨q, 0, none⟩)]⟩, ⟨6, 116, #[.pointer (some ⟨q, 0, none⟩), .pointer (some ⟨p, 0, none⟩)]⟩]
def sixT (a : Ac8) (v : Option Nat) : Nat → Bool → Prop
  | 0 => fun r => r = false → v ≠ none
  | 1 => fun r => r = false → a.le ≤ a.ix ∧ a.ix < 3
  | _ => fun _ => True
theorem six_fns {p q : Nat} {c : Ck} (h : c ∈ six p q) : ∀ args w, (callFunc c.fn args).run Tryz.prog w = .ok (.enter c.fn args) w := by
  simp only [six, List.mem_cons, List.not_mem_nil, or_false] at h
  rcases h with rfl | rfl | rfl | rfl | rfl | rfl
  · exact enters_of Tryz.func108 (by kernel_rfl) rfl
  · exact enters_of Tryz.func109 (by kernel_rfl) rfl
  · exact enters_of Tryz.func110 (by kernel_rfl) rfl
  · exact enters_of Tryz.func111 (by kernel_rfl) rfl
  · exact enters_of Tryz.func114 (by kernel_rfl) rfl
  · exact enters_of Tryz.func116 (by kernel_rfl) rfl
/-- the six checks, told one behind the other -/
theorem six_r (base r N b n p q g c : Nat) (ca : ByteArray) (G : ByteArray → Option (Option Nat)) (S : Nat → Option En) (a : Ac8) (v : Option Nat) (w : World) (hR : RgS w base r ca N b n G S) (hN : N ≤ 1000000) (hq : AtA w q a) (hp : w.cell? ⟨p, 0, none⟩ = some (ptV v)) (hv : v = (G a.b).getD none)
    (hC : CkAt w g (six p q)) (hg : g < w.heap.size) :
    Calls Tryz.prog 76 #[.slice (some ⟨g, 0, none⟩) 6 c] w fun en w' => AskP a G w en w' := by
  refine (first_r (six p q) (sixT a v) g c w hC hg (by simp [six]) (fun x hx => ?_) (fun x hx => six_fns hx) (fun j x hj hT W hb => ?_)).mono ?_
  · simp only [six, List.mem_cons, List.not_mem_nil, or_false] at hx
    rcases hx with rfl | rfl | rfl | rfl | rfl | rfl <;> simp
  · have hpW : W.cell? ⟨p, 0, none⟩ = some (ptV v) := (hb.cell (block_lt_of_cell hp)).trans hp
    have hqW := hq.below hb
    have hent : 2 < j → ∃ e x, v = some e ∧ S e = some x := fun h => by
      have := hT 0 (by omega) rfl
      cases hG : G a.b with
      | none => rw [hG] at hv; exact absurd hv this
      | some u =>
        obtain ⟨_, e, x, h1, h2⟩ := hR.ent _ _ hG
        refine ⟨e, x, ?_, h2⟩
        rw [hv, hG, h1]; rfl
    match j, hj with
    | 0, hj => cases hj; exact ask1_r p v W hpW
    | 1, hj => cases hj; exact ask2_r q a W hqW
    | 2, hj => cases hj; exact ask3_r q a W hqW
    | 3, hj => cases hj; obtain ⟨e, x, rfl, h2⟩ := hent (by decide); exact ask4_r base e q p x a W hqW hpW ((hR.at_ e x h2).below hb)
    | 4, hj => cases hj; obtain ⟨e, x, rfl, h2⟩ := hent (by decide); exact ask5_r base e q p x a W hqW hpW ((hR.at_ e x h2).below hb)
    | 5, hj => cases hj; obtain ⟨e, x, rfl, h2⟩ := hent (by decide); exact ask6_r base e q p x a W hqW hpW ((hR.at_ e x h2).below hb) (fun i hi => Nat.le_trans ((hR.fit e x h2).o i hi) hN)
    | j + 6, hj => simp [six] at hj
  · rintro en w' ⟨code, rfl, hT, hb⟩
    refine ⟨code, rfl, fun h0 => ?_, hb⟩
    have h1 := hT h0 0 (by simp [six]) rfl
    have h2 := hT h0 1 (by simp [six]) rfl
    refine ⟨?_, h2⟩
    cases hG : G a.b with
    | none => rw [hG] at hv; exact absurd hv h1
    | some u =>
      obtain ⟨_, e, x, h1, _⟩ := hR.ent _ _ hG
      exact ⟨e, by rw [h1]⟩
set_option maxHeartbeats 4000000 in
theorem ask_r (base r N b n : Nat) (ca : ByteArray) (G : ByteArray → Option (Option Nat)) (S : Nat → Option En) (a : Ac8) (w : World) (hR : RgS w base r ca N b n G S) (hN : N ≤ 1000000) (hk : a.b.size ≤ maxLen) :
    Calls Tryz.prog 85 #[.pointer (some ⟨r, 0, none⟩), .agg (ac8A a)] w fun en w' => AskP a G w en w' := by
  have hb1 : Below w.heap.size w (w.alloc (.cells (ac8A a) 164)) := (Below.refl _ _).alloc (Nat.le_refl _) _
  have hd1 : Below w.heap.size w (w.alloc (.cells (ac8A a) 164)).drew := hb1.trans ⟨rfl, rfl, rfl, Nat.le_refl _, fun _ _ => rfl⟩
  have hb2 : Below w.heap.size w ((w.alloc (.cells (ac8A a) 164)).alloc (.cells #[.pointer none] 124)).drew := (hb1.alloc (by simp) _).trans ⟨rfl, rfl, rfl, Nat.le_refl _, fun _ _ => rfl⟩
  obtain ⟨_, c1⟩ := (hR.below hd1).cell
  obtain ⟨_, c2⟩ := (hR.below hb2).cell
  have hlk := (hR.below hd1).look (k := a.b) hk
  have hlk2 := (hR.below hb2).look (k := a.b) hk
  obtain ⟨v, hv⟩ : ∃ v, v = (G a.b).getD none := ⟨_, rfl⟩
  rw [← hv] at hlk hlk2
  have hvv : ∃ pv, ptV v = .pointer pv := by cases v <;> exact ⟨_, rfl⟩
  obtain ⟨pv, hpv⟩ := hvv
  rw [hpv] at hlk hlk2
  have HX : Hid (Calls Tryz.prog 76 #[.slice (some ⟨w.heap.size + 1 + 1, 0, none⟩) 6 6] (((w.alloc (.cells (ac8A a) 164)).alloc (.cells #[.pointer pv] 124)).alloc (.cells #[.int .i64 4, .func (.func 108) #[] #[.pointer (some ⟨w.heap.size + 1, 0, none⟩)], .int .i64 3, .func (.func 109) #[] #[.pointer (some ⟨w.heap.size, 0, none⟩)],
      .int .i64 1, .func (.func 110) #[] #[.pointer (some ⟨w.heap.size, 0, none⟩)], .int .i64 9, .func (.func 111) #[] #[.pointer (some ⟨w.heap.size + 1, 0, none⟩), .pointer (some ⟨w.heap.size, 0, none⟩)], .int .i64 8, .func (.func 114) #[] #[.pointer (some ⟨w.heap.size + 1, 0, none⟩), .pointer (some ⟨w.heap.size, 0, none⟩)],
      .int .i64 6, .func (.func 116) #[] #[.pointer (some ⟨w.heap.size, 0, none⟩), .pointer (some ⟨w.heap.size + 1, 0, none⟩)]] 160)).drew fun en w' => ∃ code : Int, en = .returned (.int .i64 code) ∧ AskP a G w en w') := by
    obtain ⟨W1, hW1⟩ : ∃ W1, W1 = w.alloc (.cells (ac8A a) 164) := ⟨_, rfl⟩
    have z1 : W1.heap.size = w.heap.size + 1 := by rw [hW1]; simp
    have a1 : AtA W1 w.heap.size a := by rw [hW1]; exact heap_alloc_new _ _
    rw [← hW1] at hb1 ⊢
    obtain ⟨W2, hW2⟩ : ∃ W2, W2 = W1.alloc (.cells #[.pointer pv] 124) := ⟨_, rfl⟩
    have z2 : W2.heap.size = w.heap.size + 1 + 1 := by rw [hW2]; simp [z1]
    have b2 : Below W1.heap.size W1 W2 := by rw [hW2]; exact (Below.refl _ _).alloc (Nat.le_refl _) _
    have p2 : W2.cell? ⟨w.heap.size + 1, 0, none⟩ = some (ptV v) := by rw [hW2, ← z1, hpv]; simp
    rw [← hW2]
    obtain ⟨row, hrow⟩ : ∃ row : Array Value, row = #[.int .i64 4, .func (.func 108) #[] #[.pointer (some ⟨w.heap.size + 1, 0, none⟩)], .int .i64 3, .func (.func 109) #[] #[.pointer (some ⟨w.heap.size, 0, none⟩)],
      .int .i64 1, .func (.func 110) #[] #[.pointer (some ⟨w.heap.size, 0, none⟩)], .int .i64 9, .func (.func 111) #[] #[.pointer (some ⟨w.heap.size + 1, 0, none⟩), .pointer (some ⟨w.heap.size, 0, none⟩)], .int .i64 8, .func (.func 114) #[] #[.pointer (some ⟨w.heap.size + 1, 0, none⟩), .pointer (some ⟨w.heap.size, 0, none⟩)],
      .int .i64 6, .func (.func 116) #[] #[.pointer (some ⟨w.heap.size, 0, none⟩), .pointer (some ⟨w.heap.size + 1, 0, none⟩)]] := ⟨_, rfl⟩
    rw [← hrow]
    have b3 : Below W2.heap.size W2 (W2.alloc (.cells row 160)).drew := ((Below.refl _ _).alloc (Nat.le_refl _) _).trans ⟨rfl, rfl, rfl, Nat.le_refl _, fun _ _ => rfl⟩
    have z3 : (W2.alloc (.cells row 160)).drew.heap.size = w.heap.size + 1 + 1 + 1 := by simp [z2]
    have c3 : ∀ j, (W2.alloc (.cells row 160)).drew.cell? ⟨w.heap.size + 1 + 1, j, none⟩ = row[j]? := fun j => by
      rw [← z2]; simp
    have hb3 : Below w.heap.size w (W2.alloc (.cells row 160)).drew := hb1.trans ((b2.trans (b3.mono (by omega))).mono (by omega))
    refine (six_r base r N b n (w.heap.size + 1) w.heap.size (w.heap.size + 1 + 1) 6 ca G S a v _ (hR.below hb3) hN ((a1.below b2).below b3) ((b3.cell (p := ⟨w.heap.size + 1, 0, none⟩) (by show w.heap.size + 1 < _; omega)).trans p2) hv ?_ (by omega)).mono ?_
    · intro i x hx
      rw [c3, c3, hrow]
      match i, hx with
      | 0, hx => cases hx; exact ⟨rfl, rfl⟩
      | 1, hx => cases hx; exact ⟨rfl, rfl⟩
      | 2, hx => cases hx; exact ⟨rfl, rfl⟩
      | 3, hx => cases hx; exact ⟨rfl, rfl⟩
      | 4, hx => cases hx; exact ⟨rfl, rfl⟩
      | 5, hx => cases hx; exact ⟨rfl, rfl⟩
      | i + 6, hx => simp [six] at hx
    · rintro en w' ⟨code, rfl, h1, h2⟩
      exact ⟨code, rfl, code, rfl, h1, hb3.trans (h2.mono (by omega))⟩
  clear hR hb1 hd1 hb2 hv hpv hk hN
  generalize AskP a G w = CP at *
  unfold ac8A at *
  go_enter Tryz.func85, Tryz.ntmps85
  go_wp2_with fail
  go_region
  all_goals
    clear hlk hlk2 c1 c2
    go_wp2_with (first
      | (go_at_call 76; refine HX.out.mono ?_; rintro en w2 ⟨code, rfl, h2⟩; have HF := Lib.hid h2; clear h2)
      | fail)
  all_goals
    first
      | exact HF.out
      | (go_ret; exact HF.out)
end Go.Proofs.YtdinloecgaapaaaGreatDoor
