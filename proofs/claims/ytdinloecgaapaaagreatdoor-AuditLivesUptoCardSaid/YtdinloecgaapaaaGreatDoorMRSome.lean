/- entry.some, of any function of originals. The closures of Register.ask: what they answer is a truth value. -/
import Derived.Test.YtdinloecgaapaaaGreatDoorROrig
import Derived.Test.YtdinloecgaapaaaGreatDoorMRNum
import Derived.Test.YtdinloecgaapaaaGreatDoorMRMark
import Derived.Test.YtdinloecgaapaaaGreatDoorMAChanges
namespace Go.Proofs.YtdinloecgaapaaaGreatDoor
open Go.RowKit Go.Maps Go.Lib
set_option linter.unusedVariables false
set_option maxRecDepth 100000

def orcA (o : Or) : Array Value := #[.int .i64 o.s, .string o.h, .slice o.A o.n o.c]
def TrP (w : World) (e : Ending) (w' : World) : Prop := ∃ r : Bool, e = .returned (.bool r) ∧ Below w.heap.size w w'
set_option maxHeartbeats 8000000 in
theorem some_r (base e : Nat) (x : En) (ix : Int) (f : FuncId) (cap : Array Value) (w : World) (hE : EnAt w base e x) (eg : ∀ args w, (callFunc f args).run Tryz.prog w = .ok (.enter f args) w)
    (hT : ∀ i, i < 3 → ∀ W, Below w.heap.size w W → Calls Tryz.prog f (#[.agg (orcA (x.o i))] ++ cap) W fun e w' => CkP (fun _ => True) W e w') :
    Calls Tryz.prog 112 #[.pointer (some ⟨e, 0, none⟩), .int .i64 ix, .func (.func f) #[] cap] w fun en w' => TrP w en w' := by
  have HO := Lib.hid hE.orgs
  have hI : (Tryz.prog.info? 130).map (·.size) = some (orA x).length := infoArr3
  have HI := Lib.hid hI
  have HT := Lib.hid hT
  have HYes : Hid (∀ W, Below w.heap.size w W → TrP w (.returned (.bool true)) W) := Lib.hid (fun W hb => ⟨true, rfl, hb⟩)
  have HNo : Hid (∀ W, Below w.heap.size w W → TrP w (.returned (.bool false)) W) := Lib.hid (fun W hb => ⟨false, rfl, hb⟩)
  generalize TrP w = CP at *
  clear hE hI hT
  unfold orcA at HT
  go_enter Tryz.func112, Tryz.ntmps112
  go_wp2_with (first
    | (refine wpList_load_mid rfl 130 (.tmp 11) rfl e 10 rfl (orA x) _ HO.out Tryz.underlying130 rfl HI.out ?_)
    | fail)
  unfold orA
  clear HO HI
  go_loopw [13] (fun i wr => ∃ j : Nat, j ≤ 3 ∧ i = .int .i64 (j : Int) ∧ Hid (Below w.heap.size w wr)) (fun i _ => 3 - (RowKit.intOf i).toNat)
  case atStart => exact ⟨0, by omega, rfl, Lib.hid (Below.refl _ _)⟩
  case round =>
    obtain ⟨j, hj, rfl, HB⟩ := hrel
    by_cases hlt : j < 3
    · obtain rfl | rfl | rfl : j = 0 ∨ j = 1 ∨ j = 2 := by omega
      · have hba : Below wr.heap.size wr (wr.alloc (.cells #[.int .i64 (x.o 0).s, .string (x.o 0).h, .slice (x.o 0).A (x.o 0).n (x.o 0).c] 129)) := (Below.refl _ _).alloc (Nat.le_refl _) _
        have hB2 := HB.out.trans (hba.mono HB.out.size)
        have HB2 := Lib.hid hB2
        have HTk := Lib.hid (HT.out 0 (by omega) _ hB2)
        clear hba hB2 HT HB
        simp only [Int.cast_ofNat_Int]
        by_cases h1 : ix = -1
        · subst h1
          go_wp2_with (first
            | (refine wpList_indexRow rfl _ (.tmp 12) (.tmp 13) rfl _ _ _ rfl rfl (index0 _ _ _ _ _ _ _ _ _ _) ?_)
            | (go_at_fn f; refine HTk.out.mono ?_; rintro en w3 ⟨rb, rfl, _, hb3⟩; have HB3 := Lib.hid (HB2.out.trans (hb3.mono HB2.out.size)); clear hb3; cases rb)
            | fail)
          all_goals
            first
              | exact ⟨⟨1, by omega, by go_num, HB3⟩, by simp [RowKit.intOf]⟩
              | exact HYes.out _ HB3.out
              | (go_ret; exact HYes.out _ HB3.out)
        · have e1 : (ix == -1) = false := by simpa using h1
          by_cases h2 : ix = 0
          · subst h2
            go_wp2_with (first
              | (refine wpList_indexRow rfl _ (.tmp 12) (.tmp 13) rfl _ _ _ rfl rfl (index0 _ _ _ _ _ _ _ _ _ _) ?_)
              | (go_at_fn f; refine HTk.out.mono ?_; rintro en w3 ⟨rb, rfl, _, hb3⟩; have HB3 := Lib.hid (HB2.out.trans (hb3.mono HB2.out.size)); clear hb3; cases rb)
              | fail)
            all_goals
              first
                | exact ⟨⟨1, by omega, by go_num, HB3⟩, by simp [RowKit.intOf]⟩
                | exact HYes.out _ HB3.out
                | (go_ret; exact HYes.out _ HB3.out)
          · have e2 : (ix == 0) = false := by simpa using h2
            go_wp2_with (first
              | (refine wpList_indexRow rfl _ (.tmp 12) (.tmp 13) rfl _ _ _ rfl rfl (index0 _ _ _ _ _ _ _ _ _ _) ?_)
              | fail)
            exact ⟨⟨1, by omega, by go_num, HB2⟩, by simp [RowKit.intOf]⟩
      · have hba : Below wr.heap.size wr (wr.alloc (.cells #[.int .i64 (x.o 1).s, .string (x.o 1).h, .slice (x.o 1).A (x.o 1).n (x.o 1).c] 129)) := (Below.refl _ _).alloc (Nat.le_refl _) _
        have hB2 := HB.out.trans (hba.mono HB.out.size)
        have HB2 := Lib.hid hB2
        have HTk := Lib.hid (HT.out 1 (by omega) _ hB2)
        clear hba hB2 HT HB
        simp only [Int.cast_ofNat_Int]
        by_cases h1 : ix = -1
        · subst h1
          go_wp2_with (first
            | (refine wpList_indexRow rfl _ (.tmp 12) (.tmp 13) rfl _ _ _ rfl rfl (index1 _ _ _ _ _ _ _ _ _ _) ?_)
            | (go_at_fn f; refine HTk.out.mono ?_; rintro en w3 ⟨rb, rfl, _, hb3⟩; have HB3 := Lib.hid (HB2.out.trans (hb3.mono HB2.out.size)); clear hb3; cases rb)
            | fail)
          all_goals
            first
              | exact ⟨⟨2, by omega, by go_num, HB3⟩, by simp [RowKit.intOf]⟩
              | exact HYes.out _ HB3.out
              | (go_ret; exact HYes.out _ HB3.out)
        · have e1 : (ix == -1) = false := by simpa using h1
          by_cases h2 : ix = 1
          · subst h2
            go_wp2_with (first
              | (refine wpList_indexRow rfl _ (.tmp 12) (.tmp 13) rfl _ _ _ rfl rfl (index1 _ _ _ _ _ _ _ _ _ _) ?_)
              | (go_at_fn f; refine HTk.out.mono ?_; rintro en w3 ⟨rb, rfl, _, hb3⟩; have HB3 := Lib.hid (HB2.out.trans (hb3.mono HB2.out.size)); clear hb3; cases rb)
              | fail)
            all_goals
              first
                | exact ⟨⟨2, by omega, by go_num, HB3⟩, by simp [RowKit.intOf]⟩
                | exact HYes.out _ HB3.out
                | (go_ret; exact HYes.out _ HB3.out)
          · have e2 : (ix == 1) = false := by simpa using h2
            go_wp2_with (first
              | (refine wpList_indexRow rfl _ (.tmp 12) (.tmp 13) rfl _ _ _ rfl rfl (index1 _ _ _ _ _ _ _ _ _ _) ?_)
              | fail)
            exact ⟨⟨2, by omega, by go_num, HB2⟩, by simp [RowKit.intOf]⟩
      · have hba : Below wr.heap.size wr (wr.alloc (.cells #[.int .i64 (x.o 2).s, .string (x.o 2).h, .slice (x.o 2).A (x.o 2).n (x.o 2).c] 129)) := (Below.refl _ _).alloc (Nat.le_refl _) _
        have hB2 := HB.out.trans (hba.mono HB.out.size)
        have HB2 := Lib.hid hB2
        have HTk := Lib.hid (HT.out 2 (by omega) _ hB2)
        clear hba hB2 HT HB
        simp only [Int.cast_ofNat_Int]
        by_cases h1 : ix = -1
        · subst h1
          go_wp2_with (first
            | (refine wpList_indexRow rfl _ (.tmp 12) (.tmp 13) rfl _ _ _ rfl rfl (index2 _ _ _ _ _ _ _ _ _ _) ?_)
            | (go_at_fn f; refine HTk.out.mono ?_; rintro en w3 ⟨rb, rfl, _, hb3⟩; have HB3 := Lib.hid (HB2.out.trans (hb3.mono HB2.out.size)); clear hb3; cases rb)
            | fail)
          all_goals
            first
              | exact ⟨⟨3, by omega, by go_num, HB3⟩, by simp [RowKit.intOf]⟩
              | exact HYes.out _ HB3.out
              | (go_ret; exact HYes.out _ HB3.out)
        · have e1 : (ix == -1) = false := by simpa using h1
          by_cases h2 : ix = 2
          · subst h2
            go_wp2_with (first
              | (refine wpList_indexRow rfl _ (.tmp 12) (.tmp 13) rfl _ _ _ rfl rfl (index2 _ _ _ _ _ _ _ _ _ _) ?_)
              | (go_at_fn f; refine HTk.out.mono ?_; rintro en w3 ⟨rb, rfl, _, hb3⟩; have HB3 := Lib.hid (HB2.out.trans (hb3.mono HB2.out.size)); clear hb3; cases rb)
              | fail)
            all_goals
              first
                | exact ⟨⟨3, by omega, by go_num, HB3⟩, by simp [RowKit.intOf]⟩
                | exact HYes.out _ HB3.out
                | (go_ret; exact HYes.out _ HB3.out)
          · have e2 : (ix == 2) = false := by simpa using h2
            go_wp2_with (first
              | (refine wpList_indexRow rfl _ (.tmp 12) (.tmp 13) rfl _ _ _ rfl rfl (index2 _ _ _ _ _ _ _ _ _ _) ?_)
              | fail)
            exact ⟨⟨3, by omega, by go_num, HB2⟩, by simp [RowKit.intOf]⟩
    · have h3 : j = 3 := by omega
      subst h3
      go_wp2_with fail
      first
        | exact HNo.out _ HB.out
        | (go_ret; exact HNo.out _ HB.out)
end Go.Proofs.YtdinloecgaapaaaGreatDoor
namespace Go.Proofs.YtdinloecgaapaaaGreatDoor
open Go.RowKit Go.Maps Go.Lib
set_option linter.unusedVariables false
set_option maxRecDepth 100000

/-- the last day of an original: some number, the same in every world that stands over this one -/
theorem last_r (base : Nat) (o : Or) (is : Int) (w0 : World) (h : ChOk w0 base o) (hn : o.n ≤ 1000000) :
    ∃ d : Int, ∀ W, Below w0.heap.size w0 W → Calls Tryz.prog 118 #[.agg (orcA o), .int .i64 is] W fun e w' => e = .returned (.int .i64 d) ∧ Below W.heap.size W w' := by
  by_cases h0 : o.n = 0
  · refine ⟨is, fun W hb => ?_⟩
    have hb1 : Below W.heap.size W (W.alloc (.cells #[.int .i64 o.s, .string o.h, .slice o.A o.n o.c] 129)) := (Below.refl _ _).alloc (Nat.le_refl _) _
    have HB := Lib.hid hb1
    clear hb1 h
    unfold orcA
    rw [h0]
    rw [h0] at HB
    go_enter Tryz.func118, Tryz.ntmps118
    go_wp2_with fail
    go_ret
    exact ⟨rfl, HB.out⟩
  · obtain ⟨cs, ⟨h1, h2⟩, h3⟩ := h
    obtain ⟨m, hm⟩ : ∃ m, o.n = m + 1 := ⟨o.n - 1, by omega⟩
    obtain ⟨d, hd⟩ := h3 m (by omega)
    refine ⟨d, fun W hb => ?_⟩
    rcases h2 with ⟨_, h2⟩ | ⟨g, cap, cur, e1, hlo, hg, h4, h5, h6, h7⟩
    · omega
    · have hgW := keep_of_below hb hg
      have hcell : W.cell? ⟨g, m * 4 + 3, none⟩ = some (.int .i64 d) := by
        simp only [World.cell?, hgW]
        rw [← Array.getElem?_toList, ← hd, ← h7, List.getElem?_take_of_lt (by omega)]
        rw [Nat.mul_comm]
        simp
      have hb1 : Below W.heap.size W (W.alloc (.cells #[.int .i64 o.s, .string o.h, .slice (some ⟨g, 0, none⟩) (m + 1) cap] 129)) := (Below.refl _ _).alloc (Nat.le_refl _) _
      have HB := Lib.hid hb1
      have hc1 := Lib.cell?_alloc_some (.cells #[.int .i64 o.s, .string o.h, .slice (some ⟨g, 0, none⟩) (m + 1) cap] 129) hcell
      have i1 : ((m + 1 : Nat) : Int) - 1 = (m : Int) := by omega
      have i2 : (0 : Int) ≤ (m : Int) := by omega
      have i3 : (m : Int) < ((m + 1 : Nat) : Int) := by omega
      have i4 : ¬ ((m + 1 : Nat) : Int) = 0 := by omega
      unfold orcA
      rw [e1, hm]
      clear hb1 h1 h3 hd hg h4 h5 h6 h7 hgW hb
      go_enter Tryz.func118, Tryz.ntmps118
      go_wp2_with fail
      go_ret
      exact ⟨rfl, HB.out⟩
/-- what somebody wants -/
structure Ac8 where
  b : ByteArray
  ix : Int
  le : Int
  by_ : ByteArray
  st : Int
  day : Int
  dt : Bool
  wr : Bool
def ac8A (a : Ac8) : Array Value := #[.string a.b, .int .i64 a.ix, .int .i64 a.le, .string a.by_, .int .i64 a.st, .int .i64 a.day, .bool a.dt, .bool a.wr]
def AtA (w : World) (q : Nat) (a : Ac8) : Prop := w.heap[q]? = some (.cells (ac8A a) 164 (0, 0))
theorem AtA.cell {w : World} {q : Nat} {a : Ac8} (h : AtA w q a) (j : Nat) : w.cell? ⟨q, j, none⟩ = (ac8A a)[j]? := by
  simp [World.cell?, show w.heap[q]? = _ from h]
theorem AtA.below {w w' : World} {q : Nat} {a : Ac8} (h : AtA w q a) (hb : Below w.heap.size w w') : AtA w' q a := keep_of_below hb h
theorem ask41_r (o : Or) (q : Nat) (a : Ac8) (w : World) (hq : AtA w q a) :
    Calls Tryz.prog 113 (#[.agg (orcA o)] ++ #[.pointer (some ⟨q, 0, none⟩)]) w fun e w' => CkP (fun _ => True) w e w' := by
  have c4 : w.cell? ⟨q, 4, none⟩ = some (.int .i64 a.st) := hq.cell 4
  have hb1 : Below w.heap.size w (w.alloc (.cells (orcA o) 129)) := (Below.refl _ _).alloc (Nat.le_refl _) _
  have HF : Hid (∀ r : Bool, CkP (fun _ => True) w (.returned (.bool r)) (w.alloc (.cells (orcA o) 129))) := Lib.hid (fun r => ⟨r, rfl, trivial, hb1⟩)
  have hc4 := Lib.cell?_alloc_some (.cells (orcA o) 129) c4
  generalize CkP (fun _ => True) w = CP at *
  clear hb1 hq
  unfold orcA at *
  show Calls Tryz.prog 113 #[.agg #[.int .i64 o.s, .string o.h, .slice o.A o.n o.c], .pointer (some ⟨q, 0, none⟩)] w CP
  go_enter Tryz.func113, Tryz.ntmps113
  go_wp2_with fail
  first
    | exact HF.out _
    | (go_ret; exact HF.out _)
theorem ask51_r (o : Or) (q : Nat) (a : Ac8) (w : World) (hq : AtA w q a) :
    Calls Tryz.prog 115 (#[.agg (orcA o)] ++ #[.pointer (some ⟨q, 0, none⟩)]) w fun e w' => CkP (fun _ => True) w e w' := by
  have c3 : w.cell? ⟨q, 3, none⟩ = some (.string a.by_) := hq.cell 3
  have hb1 : Below w.heap.size w (w.alloc (.cells (orcA o) 129)) := (Below.refl _ _).alloc (Nat.le_refl _) _
  have HF : Hid (∀ r : Bool, CkP (fun _ => True) w (.returned (.bool r)) (w.alloc (.cells (orcA o) 129))) := Lib.hid (fun r => ⟨r, rfl, trivial, hb1⟩)
  have hc3 := Lib.cell?_alloc_some (.cells (orcA o) 129) c3
  generalize CkP (fun _ => True) w = CP at *
  clear hb1 hq
  unfold orcA at *
  show Calls Tryz.prog 115 #[.agg #[.int .i64 o.s, .string o.h, .slice o.A o.n o.c], .pointer (some ⟨q, 0, none⟩)] w CP
  go_enter Tryz.func115, Tryz.ntmps115
  go_wp2_with fail
  first
    | exact HF.out _
    | (go_ret; exact HF.out _)
end Go.Proofs.YtdinloecgaapaaaGreatDoor
