/- Register.Originals. entry.some, of any function of originals. The closures of Register.ask: what they answer is a truth value. -/
import Derived.Test.YtdinloecgaapaaaGreatDoorMRBox
import Derived.Laws.MakeOwn
import Derived.Test.YtdinloecgaapaaaGreatDoorMRNum
import Derived.Test.YtdinloecgaapaaaGreatDoorMRMark
import Derived.Test.YtdinloecgaapaaaGreatDoorMAChanges
namespace Go.Proofs.YtdinloecgaapaaaGreatDoor
open Go.RowKit Go.Maps Go.Lib Go.Sort
set_option linter.unusedVariables false
set_option maxRecDepth 100000

/-- the three originals, as an entry holds them -/
def orA (x : En) : List Value := [.int .i64 (x.o 0).s, .string (x.o 0).h, .slice (x.o 0).A (x.o 0).n (x.o 0).c, .int .i64 (x.o 1).s, .string (x.o 1).h, .slice (x.o 1).A (x.o 1).n (x.o 1).c, .int .i64 (x.o 2).s, .string (x.o 2).h, .slice (x.o 2).A (x.o 2).n (x.o 2).c]
theorem EnAt.orgs {w : World} {base e : Nat} {x : En} (h : EnAt w base e x) : w.rangeAt e 10 (orA x) := fun j v hv => by
  have hj : j < 9 := by have := (List.getElem?_eq_some_iff.1 hv).1; simpa [orA] using this
  rw [h.cell (10 + j), ← hv]
  match j, hj with
  | 0, _ => rfl
  | 1, _ => rfl
  | 2, _ => rfl
  | 3, _ => rfl
  | 4, _ => rfl
  | 5, _ => rfl
  | 6, _ => rfl
  | 7, _ => rfl
  | 8, _ => rfl
/-- .. and as they are told -/
def orT (k : ByteArray) (x : En) : Nat → List Value
  | 0 => []
  | i + 1 => orT k x i ++ [.string k, .int .i64 (i : Int), .int .i64 (x.o i).s, .string (x.o i).h]
theorem orT_len (k : ByteArray) (x : En) : ∀ i, (orT k x i).length = i * 4
  | 0 => rfl
  | i + 1 => by rw [orT, List.length_append, orT_len k x i]; simp; omega
theorem infoOrg : (Tryz.prog.info? 134).map (fun i => (i.zero, i.size, i.bytes)) = some (some (.agg #[.string ⟨#[]⟩, .int .i64 0, .int .i64 0, .string ⟨#[]⟩]), 4, 48) := by kernel_rfl
theorem infoArr3 : (Tryz.prog.info? 130).map (·.size) = some 9 := by kernel_rfl
def OrP (k : ByteArray) (x : En) (w : World) (e : Ending) (w' : World) : Prop := ∃ A' c', e = .returned (.slice A' 3 c') ∧ w'.ownsRow w.heap.size 134 4 (.slice A' 3 c') 3 (orT k x 3) ∧ Below w.heap.size w w'
/-- one original more -/
theorem app_org {w : World} {base : Nat} {A : Option Addr} {n c : Nat} {cs : List Value} (h : w.ownsRow base 134 4 (.slice A n c) n cs) (k : ByteArray) (i s : Int) (hd : ByteArray) (hl : n ≤ 1000) (hb : base ≤ w.heap.size) :
    ∃ A' c' w', (Builtin.append_ #[67, 67] 67 #[.slice A n c, .slice (some ⟨w.heap.size, 0, none⟩) 1 1]).run Tryz.prog (w.alloc (.cells #[.string k, .int .i64 i, .int .i64 s, .string hd] 134)) = .ok (.slice A' (n + 1) c') w' ∧ w'.ownsRow base 134 4 (.slice A' (n + 1) c') (n + 1) (cs ++ [.string k, .int .i64 i, .int .i64 s, .string hd]) ∧ (w.alloc (.cells #[.string k, .int .i64 i, .int .i64 s, .string hd] 134)).grownBy w' (Value.slice A n c).ownBlock := by
  obtain ⟨i0, hi0, hz0, hz1, hz2⟩ := info_parts infoOrg
  have h1 := h.alloc (.cells #[.string k, .int .i64 i, .int .i64 s, .string hd] 134)
  have hs : (w.alloc (.cells #[.string k, .int .i64 i, .int .i64 s, .string hd] 134)).heap.size = w.heap.size + 1 := by simp
  obtain ⟨v', w', hr, h2, h3, _, h5⟩ := run_append_own_at (P := Tryz.prog) (w := w.alloc (.cells #[.string k, .int .i64 i, .int .i64 s, .string hd] 134)) base 67 67 134 i0 _ 4 48 Tryz.underlying67 hi0 hz0 hz1 hz2 rfl (by omega) (.slice A n c) n cs h1 ⟨w.heap.size, 0, none⟩ 1 1 [.string k, .int .i64 i, .int .i64 s, .string hd] rfl (fun j u hu => by
      match j, hu with
      | 0, hu => simp at hu; subst hu; simp [Addr.add]
      | 1, hu => simp at hu; subst hu; simp [Addr.add]
      | 2, hu => simp at hu; subst hu; simp [Addr.add]
      | 3, hu => simp at hu; subst hu; simp [Addr.add]
      | j + 4, hu => simp at hu) (by intro u hu; simp at hu; rcases hu with rfl | rfl | rfl | rfl <;> rfl) (by unfold maxLen; omega) (by omega) (by omega)
  have hv : ∃ A' c', v' = .slice A' (n + 1) c' := by
    rcases h2.2 with ⟨h1, h2⟩ | ⟨g, cap, cur, h1, _⟩
    · omega
    · exact ⟨_, _, h1⟩
  obtain ⟨A', c', rfl⟩ := hv
  exact ⟨A', c', w', hr, h2, h3⟩
theorem wpList_indexRow {P : Program} {ops : Array Oper} {rest : List Oper} {o : Oper} {a : Act} {w : World} {Q : Exit → Act → World → Prop} (hgd : o.guard = none) (t : TypeId) (x ix : Operand) (ho : o.op = .index t x ix) (vx vi v : Value) (hx : a.eval x = vx) (hi : a.eval ix = vi) (hr : (Instr.index t vx vi).run P w = .ok v w)
    (h : wpList P ops Q rest (a.put o.dst v) w) : wpList P ops Q (o :: rest) a w :=
  wpList_plain hgd fun _ hK => by
    unfold Oper.wp execOp
    simp only [ho, hx, hi, Sem.run_bind, Sem.run_pure, hr, Result.andThen_ok]
    exact hK _ _ h
theorem index0 (s0 s1 s2 c0 c1 c2 : Value) (h0 h1 h2 : Value) (w : World) : (Instr.index 130 (.agg #[s0, h0, c0, s1, h1, c1, s2, h2, c2]) (.int .i64 0)).run Tryz.prog w = .ok (.agg #[s0, h0, c0]) w := by kernel_rfl
theorem index1 (s0 s1 s2 c0 c1 c2 : Value) (h0 h1 h2 : Value) (w : World) : (Instr.index 130 (.agg #[s0, h0, c0, s1, h1, c1, s2, h2, c2]) (.int .i64 1)).run Tryz.prog w = .ok (.agg #[s1, h1, c1]) w := by kernel_rfl
theorem index2 (s0 s1 s2 c0 c1 c2 : Value) (h0 h1 h2 : Value) (w : World) : (Instr.index 130 (.agg #[s0, h0, c0, s1, h1, c1, s2, h2, c2]) (.int .i64 2)).run Tryz.prog w = .ok (.agg #[s2, h2, c2]) w := by kernel_rfl
set_option maxHeartbeats 8000000 in
theorem originals_r (base r N b n e : Nat) (ca k : ByteArray) (x : En) (G : ByteArray → Option (Option Nat)) (S : Nat → Option En) (w : World) (hR : RgS w base r ca N b n G S) (hG : G k = some (some e)) (hS : S e = some x) :
    Calls Tryz.prog 26 #[.pointer (some ⟨r, 0, none⟩), .string k] w fun e w' => OrP k x w e w' := by
  obtain ⟨_, c1⟩ := hR.cell
  obtain ⟨hk16, _⟩ := hR.ent k _ hG
  have hlk := hR.look (k := k) (by unfold maxLen; omega)
  rw [hG] at hlk
  have hlk' : (Instr.lookup 113 (.map (some b)) (.string k) false).run Tryz.prog w = .ok (.pointer (some ⟨e, 0, none⟩)) w := hlk
  have hE := hR.at_ e x hS
  have HO := Lib.hid (fun (W : World) (hb : Below w.heap.size w W) => (hE.below hb).orgs)
  have hI : (Tryz.prog.info? 130).map (·.size) = some (orA x).length := infoArr3
  have HI := Lib.hid hI
  obtain ⟨i0, hi0, hz0, hz1, hz2⟩ := info_parts infoOrg
  obtain ⟨w1, hmk, hown, hgr⟩ := run_make_own (P := Tryz.prog) w w.heap.size 67 134 i0 _ 4 Tryz.underlying67 hi0 hz0 hz1 .i64 .i64 3 (by rw [hz2]; omega) (by unfold maxLen; omega) (Nat.le_refl _)
  have hmk' : (Instr.makeSlice 67 (.int .i64 0) (.int .i64 3)).run Tryz.prog w = .ok (.slice (some ⟨w.heap.size, 0, none⟩) 0 3) w1 := hmk
  have hb1 : Below w.heap.size w w1 := (Below.refl _ _).grown hgr (Nat.le_refl _) (fun j hj => by cases hj)
  have HO1 := Lib.hid (HO.out w1 hb1)
  have HB1 := Lib.hid hb1
  have HR1 := Lib.hid hown
  generalize hCP : OrP k x w = CP
  clear hR hlk hI hE hmk hown hgr hb1 HO
  go_enter Tryz.func26, Tryz.ntmps26
  go_wp2_with (first
    | (refine wpList_load_mid rfl 130 (.tmp 20) rfl e 10 rfl (orA x) _ HO1.out Tryz.underlying130 rfl HI.out ?_)
    | fail)
  unfold orA
  go_loopw [6, 22] (fun v i wr => ∃ (j : Nat) (A : Option Addr) (c : Nat), j ≤ 3 ∧ i = .int .i64 (j : Int) ∧ v = .slice A j c ∧ Hid (wr.ownsRow w.heap.size 134 4 (.slice A j c) j (orT k x j)) ∧ Hid (Below w.heap.size w wr)) (fun _ i _ => 3 - (RowKit.intOf i).toNat)
  case atStart => exact ⟨0, _, 3, by omega, rfl, rfl, HR1, HB1⟩
  case round =>
    clear HB1 HR1 HO1 HI hmk'
    obtain ⟨j, A, c, hj, rfl, rfl, HR, HB⟩ := hrel
    have hz := HB.out.size
    have HAp : Hid (∀ W, Below wr.heap.size wr W → ∃ A' c' w', (Builtin.append_ #[67, 67] 67 #[.slice A j c, .slice (some ⟨W.heap.size, 0, none⟩) 1 1]).run Tryz.prog (W.alloc (.cells #[.string k, .int .i64 (j : Int), .int .i64 (x.o j).s, .string (x.o j).h] 134)) = .ok (.slice A' (j + 1) c') w' ∧ Hid (w'.ownsRow w.heap.size 134 4 (.slice A' (j + 1) c') (j + 1) (orT k x (j + 1))) ∧ Hid (Below w.heap.size w w')) := Lib.hid (fun W hb => by
      have hrow : W.ownsRow w.heap.size 134 4 (.slice A j c) j (orT k x j) := by
        refine ⟨HR.out.1, ?_⟩
        rcases HR.out.2 with h2 | ⟨g, cap, cur, e1, hb1, hg, h4⟩
        · exact .inl h2
        · exact .inr ⟨g, cap, cur, e1, hb1, keep_of_below hb hg, h4⟩
      have hW := hb.size
      obtain ⟨A', c', w', h1, h2, h3⟩ := app_org hrow k (j : Int) (x.o j).s (x.o j).h (by omega) (by omega)
      refine ⟨A', c', w', h1, Lib.hid h2, Lib.hid (((HB.out.trans (hb.mono hz)).alloc (by omega) _).grown h3 (by simp; omega) (fun q hq => ?_))⟩
      rcases HR.out.2 with ⟨h2, _⟩ | ⟨g, cap, cur, e1, hb1, hg, h4⟩
      · rw [h2] at hq; simp [Value.ownBlock] at hq
      · rw [e1] at hq
        simp [Value.ownBlock] at hq
        omega)
    by_cases hlt : j < 3
    · have hba : ∀ cs : Array Value, Below wr.heap.size wr (wr.alloc (.cells cs 129)) := fun cs => (Below.refl _ _).alloc (Nat.le_refl _) _
      obtain rfl | rfl | rfl : j = 0 ∨ j = 1 ∨ j = 2 := by omega
      · obtain ⟨A', c', w5, hrn, HR5, HB5⟩ := HAp.out (wr.alloc (.cells #[.int .i64 (x.o 0).s, .string (x.o 0).h, .slice (x.o 0).A (x.o 0).n (x.o 0).c] 129)) (hba #[.int .i64 (x.o 0).s, .string (x.o 0).h, .slice (x.o 0).A (x.o 0).n (x.o 0).c])
        have hsz : (wr.alloc (.cells #[.int .i64 (x.o 0).s, .string (x.o 0).h, .slice (x.o 0).A (x.o 0).n (x.o 0).c] 129)).heap.size = wr.heap.size + 1 := by simp
        rw [hsz] at hrn
        have hrn' : (Builtin.append_ #[67, 67] 67 #[.slice A 0 c, .slice (some ⟨wr.heap.size + 1, 0, none⟩) 1 1]).run Tryz.prog ((wr.alloc (.cells #[.int .i64 (x.o 0).s, .string (x.o 0).h, .slice (x.o 0).A (x.o 0).n (x.o 0).c] 129)).alloc (.cells #[.string k, .int .i64 0, .int .i64 (x.o 0).s, .string (x.o 0).h] 134)) = .ok (.slice A' 1 c') w5 := hrn
        clear HAp hba hrn hsz
        simp only [Int.cast_ofNat_Int]
        go_wp2_with (first
          | (refine wpList_indexRow rfl _ (.tmp 21) (.tmp 22) rfl _ _ _ rfl rfl (index0 _ _ _ _ _ _ _ _ _ _) ?_)
          | (at_builtin; refine Lib.wpList_append_run _ rfl _ _ _ _ rfl _ _ rfl rfl _ _ hrn' ?_)
          | fail)
        exact ⟨⟨1, A', c', by omega, by go_num, rfl, HR5, HB5⟩, by simp [RowKit.intOf]⟩
      · obtain ⟨A', c', w5, hrn, HR5, HB5⟩ := HAp.out (wr.alloc (.cells #[.int .i64 (x.o 1).s, .string (x.o 1).h, .slice (x.o 1).A (x.o 1).n (x.o 1).c] 129)) (hba #[.int .i64 (x.o 1).s, .string (x.o 1).h, .slice (x.o 1).A (x.o 1).n (x.o 1).c])
        have hsz : (wr.alloc (.cells #[.int .i64 (x.o 1).s, .string (x.o 1).h, .slice (x.o 1).A (x.o 1).n (x.o 1).c] 129)).heap.size = wr.heap.size + 1 := by simp
        rw [hsz] at hrn
        have hrn' : (Builtin.append_ #[67, 67] 67 #[.slice A 1 c, .slice (some ⟨wr.heap.size + 1, 0, none⟩) 1 1]).run Tryz.prog ((wr.alloc (.cells #[.int .i64 (x.o 1).s, .string (x.o 1).h, .slice (x.o 1).A (x.o 1).n (x.o 1).c] 129)).alloc (.cells #[.string k, .int .i64 1, .int .i64 (x.o 1).s, .string (x.o 1).h] 134)) = .ok (.slice A' 2 c') w5 := hrn
        clear HAp hba hrn hsz
        simp only [Int.cast_ofNat_Int]
        go_wp2_with (first
          | (refine wpList_indexRow rfl _ (.tmp 21) (.tmp 22) rfl _ _ _ rfl rfl (index1 _ _ _ _ _ _ _ _ _ _) ?_)
          | (at_builtin; refine Lib.wpList_append_run _ rfl _ _ _ _ rfl _ _ rfl rfl _ _ hrn' ?_)
          | fail)
        exact ⟨⟨2, A', c', by omega, by go_num, rfl, HR5, HB5⟩, by simp [RowKit.intOf]⟩
      · obtain ⟨A', c', w5, hrn, HR5, HB5⟩ := HAp.out (wr.alloc (.cells #[.int .i64 (x.o 2).s, .string (x.o 2).h, .slice (x.o 2).A (x.o 2).n (x.o 2).c] 129)) (hba #[.int .i64 (x.o 2).s, .string (x.o 2).h, .slice (x.o 2).A (x.o 2).n (x.o 2).c])
        have hsz : (wr.alloc (.cells #[.int .i64 (x.o 2).s, .string (x.o 2).h, .slice (x.o 2).A (x.o 2).n (x.o 2).c] 129)).heap.size = wr.heap.size + 1 := by simp
        rw [hsz] at hrn
        have hrn' : (Builtin.append_ #[67, 67] 67 #[.slice A 2 c, .slice (some ⟨wr.heap.size + 1, 0, none⟩) 1 1]).run Tryz.prog ((wr.alloc (.cells #[.int .i64 (x.o 2).s, .string (x.o 2).h, .slice (x.o 2).A (x.o 2).n (x.o 2).c] 129)).alloc (.cells #[.string k, .int .i64 2, .int .i64 (x.o 2).s, .string (x.o 2).h] 134)) = .ok (.slice A' 3 c') w5 := hrn
        clear HAp hba hrn hsz
        simp only [Int.cast_ofNat_Int]
        go_wp2_with (first
          | (refine wpList_indexRow rfl _ (.tmp 21) (.tmp 22) rfl _ _ _ rfl rfl (index2 _ _ _ _ _ _ _ _ _ _) ?_)
          | (at_builtin; refine Lib.wpList_append_run _ rfl _ _ _ _ rfl _ _ rfl rfl _ _ hrn' ?_)
          | fail)
        exact ⟨⟨3, A', c', by omega, by go_num, rfl, HR5, HB5⟩, by simp [RowKit.intOf]⟩
    · have h3 : j = 3 := by omega
      subst h3
      have HF : Hid (CP (.returned (.slice A 3 c)) wr) := Lib.hid (by rw [← hCP]; exact ⟨A, c, rfl, HR.out, HB.out⟩)
      clear HAp
      go_wp2_with fail
      first
        | exact HF.out
        | (go_ret; exact HF.out)
end Go.Proofs.YtdinloecgaapaaaGreatDoor
namespace Go.Proofs.YtdinloecgaapaaaGreatDoor
open Go.RowKit Go.Maps Go.Lib
set_option linter.unusedVariables false
set_option maxRecDepth 100000

def orcA (o : Or) : Array Value := #[.int .i64 o.s, .string o.h, .slice o.A o.n o.c]
def TrP (w : World) (e : Ending) (w' : World) : Prop := ∃ r : Bool, e = .returned (.bool r) ∧ Below w.heap.size w w'
set_option maxHeartbeats 8000000 in
theorem some_r (base e : Nat) (x : En) (ix : Int) (f : FuncId) (cap : Array Value) (w : World) (hE : EnAt w base e x) (eg : ∀ args w, (callFunc f args).run Tryz.prog w = .ok (.enter f args) w)
    (hT : ∀ i, i < 3 → ∀ W, Below w.heap.size w W → Calls Tryz.prog f (#[.agg (orcA (x.o i))] ++ cap) W fun e w' => CkP (fun _ => True) W e w') :
    Calls Tryz.prog 112 #[.pointer (some ⟨e, 0, none⟩), .int .i64 ix, .func (.func f) #[] cap] w fun en w' => TrP w en w' := by
  have HO := Lib.hid hE.orgs
  have hI : (Tryz.prog.info? 130).map (·.size) = some (orA x).length := infoArr3
  have HI := Lib.hid hI
  have HT := Lib.hid hT
  have HYes : Hid (∀ W, Below w.heap.size w W → TrP w (.returned (.bool true)) W) := Lib.hid (fun W hb => ⟨true, rfl, hb⟩)
  have HNo : Hid (∀ W, Below w.heap.size w W → TrP w (.returned (.bool false)) W) := Lib.hid (fun W hb => ⟨false, rfl, hb⟩)
  generalize TrP w = CP at *
  clear hE hI hT
  unfold orcA at HT
  go_enter Tryz.func112, Tryz.ntmps112
  go_wp2_with (first
    | (refine wpList_load_mid rfl 130 (.tmp 11) rfl e 10 rfl (orA x) _ HO.out Tryz.underlying130 rfl HI.out ?_)
    | fail)
  unfold orA
  clear HO HI
  go_loopw [13] (fun i wr => ∃ j : Nat, j ≤ 3 ∧ i = .int .i64 (j : Int) ∧ Hid (Below w.heap.size w wr)) (fun i _ => 3 - (RowKit.intOf i).toNat)
  case atStart => exact ⟨0, by omega, rfl, Lib.hid (Below.refl _ _)⟩
  case round =>
    obtain ⟨j, hj, rfl, HB⟩ := hrel
    by_cases hlt : j < 3
    · obtain rfl | rfl | rfl : j = 0 ∨ j = 1 ∨ j = 2 := by omega
      · have hba : Below wr.heap.size wr (wr.alloc (.cells #[.int .i64 (x.o 0).s, .string (x.o 0).h, .slice (x.o 0).A (x.o 0).n (x.o 0).c] 129)) := (Below.refl _ _).alloc (Nat.le_refl _) _
        have hB2 := HB.out.trans (hba.mono HB.out.size)
        have HB2 := Lib.hid hB2
        have HTk := Lib.hid (HT.out 0 (by omega) _ hB2)
        clear hba hB2 HT HB
        simp only [Int.cast_ofNat_Int]
        by_cases h1 : ix = -1
        · subst h1
          go_wp2_with (first
            | (refine wpList_indexRow rfl _ (.tmp 12) (.tmp 13) rfl _ _ _ rfl rfl (index0 _ _ _ _ _ _ _ _ _ _) ?_)
            | (go_at_fn f; refine HTk.out.mono ?_; rintro en w3 ⟨rb, rfl, _, hb3⟩; have HB3 := Lib.hid (HB2.out.trans (hb3.mono HB2.out.size)); clear hb3; cases rb)
            | fail)
          all_goals
            first
              | exact ⟨⟨1, by omega, by go_num, HB3⟩, by simp [RowKit.intOf]⟩
              | exact HYes.out _ HB3.out
              | (go_ret; exact HYes.out _ HB3.out)
        · have e1 : (ix == -1) = false := by simpa using h1
          by_cases h2 : ix = 0
          · subst h2
            go_wp2_with (first
              | (refine wpList_indexRow rfl _ (.tmp 12) (.tmp 13) rfl _ _ _ rfl rfl (index0 _ _ _ _ _ _ _ _ _ _) ?_)
              | (go_at_fn f; refine HTk.out.mono ?_; rintro en w3 ⟨rb, rfl, _, hb3⟩; have HB3 := Lib.hid (HB2.out.trans (hb3.mono HB2.out.size)); clear hb3; cases rb)
              | fail)
            all_goals
              first
                | exact ⟨⟨1, by omega, by go_num, HB3⟩, by simp [RowKit.intOf]⟩
                | exact HYes.out _ HB3.out
                | (go_ret; exact HYes.out _ HB3.out)
          · have e2 : (ix == 0) = false := by simpa using h2
            go_wp2_with (first
              | (refine wpList_indexRow rfl _ (.tmp 12) (.tmp 13) rfl _ _ _ rfl rfl (index0 _ _ _ _ _ _ _ _ _ _) ?_)
              | fail)
            exact ⟨⟨1, by omega, by go_num, HB2⟩, by simp [RowKit.intOf]⟩
      · have hba : Below wr.heap.size wr (wr.alloc (.cells #[.int .i64 (x.o 1).s, .string (x.o 1).h, .slice (x.o 1).A (x.o 1).n (x.o 1).c] 129)) := (Below.refl _ _).alloc (Nat.le_refl _) _
        have hB2 := HB.out.trans (hba.mono HB.out.size)
        have HB2 := Lib.hid hB2
        have HTk := Lib.hid (HT.out 1 (by omega) _ hB2)
        clear hba hB2 HT HB
        simp only [Int.cast_ofNat_Int]
        by_cases h1 : ix = -1
        · subst h1
          go_wp2_with (first
            | (refine wpList_indexRow rfl _ (.tmp 12) (.tmp 13) rfl _ _ _ rfl rfl (index1 _ _ _ _ _ _ _ _ _ _) ?_)
            | (go_at_fn f; refine HTk.out.mono ?_; rintro en w3 ⟨rb, rfl, _, hb3⟩; have HB3 := Lib.hid (HB2.out.trans (hb3.mono HB2.out.size)); clear hb3; cases rb)
            | fail)
          all_goals
            first
              | exact ⟨⟨2, by omega, by go_num, HB3⟩, by simp [RowKit.intOf]⟩
              | exact HYes.out _ HB3.out
              | (go_ret; exact HYes.out _ HB3.out)
        · have e1 : (ix == -1) = false := by simpa using h1
          by_cases h2 : ix = 1
          · subst h2
            go_wp2_with (first
              | (refine wpList_indexRow rfl _ (.tmp 12) (.tmp 13) rfl _ _ _ rfl rfl (index1 _ _ _ _ _ _ _ _ _ _) ?_)
              | (go_at_fn f; refine HTk.out.mono ?_; rintro en w3 ⟨rb, rfl, _, hb3⟩; have HB3 := Lib.hid (HB2.out.trans (hb3.mono HB2.out.size)); clear hb3; cases rb)
              | fail)
            all_goals
              first
                | exact ⟨⟨2, by omega, by go_num, HB3⟩, by simp [RowKit.intOf]⟩
                | exact HYes.out _ HB3.out
                | (go_ret; exact HYes.out _ HB3.out)
          · have e2 : (ix == 1) = false := by simpa using h2
            go_wp2_with (first
              | (refine wpList_indexRow rfl _ (.tmp 12) (.tmp 13) rfl _ _ _ rfl rfl (index1 _ _ _ _ _ _ _ _ _ _) ?_)
              | fail)
            exact ⟨⟨2, by omega, by go_num, HB2⟩, by simp [RowKit.intOf]⟩
      · have hba : Below wr.heap.size wr (wr.alloc (.cells #[.int .i64 (x.o 2).s, .string (x.o 2).h, .slice (x.o 2).A (x.o 2).n (x.o 2).c] 129)) := (Below.refl _ _).alloc (Nat.le_refl _) _
        have hB2 := HB.out.trans (hba.mono HB.out.size)
        have HB2 := Lib.hid hB2
        have HTk := Lib.hid (HT.out 2 (by omega) _ hB2)
        clear hba hB2 HT HB
        simp only [Int.cast_ofNat_Int]
        by_cases h1 : ix = -1
        · subst h1
          go_wp2_with (first
            | (refine wpList_indexRow rfl _ (.tmp 12) (.tmp 13) rfl _ _ _ rfl rfl (index2 _ _ _ _ _ _ _ _ _ _) ?_)
            | (go_at_fn f; refine HTk.out.mono ?_; rintro en w3 ⟨rb, rfl, _, hb3⟩; have HB3 := Lib.hid (HB2.out.trans (hb3.mono HB2.out.size)); clear hb3; cases rb)
            | fail)
          all_goals
            first
              | exact ⟨⟨3, by omega, by go_num, HB3⟩, by simp [RowKit.intOf]⟩
              | exact HYes.out _ HB3.out
              | (go_ret; exact HYes.out _ HB3.out)
        · have e1 : (ix == -1) = false := by simpa using h1
          by_cases h2 : ix = 2
          · subst h2
            go_wp2_with (first
              | (refine wpList_indexRow rfl _ (.tmp 12) (.tmp 13) rfl _ _ _ rfl rfl (index2 _ _ _ _ _ _ _ _ _ _) ?_)
              | (go_at_fn f; refine HTk.out.mono ?_; rintro en w3 ⟨rb, rfl, _, hb3⟩; have HB3 := Lib.hid (HB2.out.trans (hb3.mono HB2.out.size)); clear hb3; cases rb)
              | fail)
            all_goals
              first
                | exact ⟨⟨3, by omega, by go_num, HB3⟩, by simp [RowKit.intOf]⟩
                | exact HYes.out _ HB3.out
                | (go_ret; exact HYes.out _ HB3.out)
          · have e2 : (ix == 2) = false := by simpa using h2
            go_wp2_with (first
              | (refine wpList_indexRow rfl _ (.tmp 12) (.tmp 13) rfl _ _ _ rfl rfl (index2 _ _ _ _ _ _ _ _ _ _) ?_)
              | fail)
            exact ⟨⟨3, by omega, by go_num, HB2⟩, by simp [RowKit.intOf]⟩
    · have h3 : j = 3 := by omega
      subst h3
      go_wp2_with fail
      first
        | exact HNo.out _ HB.out
        | (go_ret; exact HNo.out _ HB.out)
end Go.Proofs.YtdinloecgaapaaaGreatDoor
namespace Go.Proofs.YtdinloecgaapaaaGreatDoor
open Go.RowKit Go.Maps Go.Lib
set_option linter.unusedVariables false
set_option maxRecDepth 100000

/-- the last day of an original: some number, the same in every world that stands over this one -/
theorem last_r (base : Nat) (o : Or) (is : Int) (w0 : World) (h : ChOk w0 base o) (hn : o.n ≤ 1000000) :
    ∃ d : Int, ∀ W, Below w0.heap.size w0 W → Calls Tryz.prog 118 #[.agg (orcA o), .int .i64 is] W fun e w' => e = .returned (.int .i64 d) ∧ Below W.heap.size W w' := by
  by_cases h0 : o.n = 0
  · refine ⟨is, fun W hb => ?_⟩
    have hb1 : Below W.heap.size W (W.alloc (.cells #[.int .i64 o.s, .string o.h, .slice o.A o.n o.c] 129)) := (Below.refl _ _).alloc (Nat.le_refl _) _
    have HB := Lib.hid hb1
    clear hb1 h
    unfold orcA
    rw [h0]
    rw [h0] at HB
    go_enter Tryz.func118, Tryz.ntmps118
    go_wp2_with fail
    go_ret
    exact ⟨rfl, HB.out⟩
  · obtain ⟨cs, ⟨h1, h2⟩, h3⟩ := h
    obtain ⟨m, hm⟩ : ∃ m, o.n = m + 1 := ⟨o.n - 1, by omega⟩
    obtain ⟨d, hd⟩ := h3 m (by omega)
    refine ⟨d, fun W hb => ?_⟩
    rcases h2 with ⟨_, h2⟩ | ⟨g, cap, cur, e1, hlo, hg, h4, h5, h6, h7⟩
    · omega
    · have hgW := keep_of_below hb hg
      have hcell : W.cell? ⟨g, m * 4 + 3, none⟩ = some (.int .i64 d) := by
        simp only [World.cell?, hgW]
        rw [← Array.getElem?_toList, ← hd, ← h7, List.getElem?_take_of_lt (by omega)]
        rw [Nat.mul_comm]
        simp
      have hb1 : Below W.heap.size W (W.alloc (.cells #[.int .i64 o.s, .string o.h, .slice (some ⟨g, 0, none⟩) (m + 1) cap] 129)) := (Below.refl _ _).alloc (Nat.le_refl _) _
      have HB := Lib.hid hb1
      have hc1 := Lib.cell?_alloc_some (.cells #[.int .i64 o.s, .string o.h, .slice (some ⟨g, 0, none⟩) (m + 1) cap] 129) hcell
      have i1 : ((m + 1 : Nat) : Int) - 1 = (m : Int) := by omega
      have i2 : (0 : Int) ≤ (m : Int) := by omega
      have i3 : (m : Int) < ((m + 1 : Nat) : Int) := by omega
      have i4 : ¬ ((m + 1 : Nat) : Int) = 0 := by omega
      unfold orcA
      rw [e1, hm]
      clear hb1 h1 h3 hd hg h4 h5 h6 h7 hgW hb
      go_enter Tryz.func118, Tryz.ntmps118
      go_wp2_with fail
      go_ret
      exact ⟨rfl, HB.out⟩
/-- what somebody wants -/
structure Ac8 where
  b : ByteArray
  ix : Int
  le : Int
  by_ : ByteArray
  st : Int
  day : Int
  dt : Bool
  wr : Bool
def ac8A (a : Ac8) : Array Value := #[.string a.b, .int .i64 a.ix, .int .i64 a.le, .string a.by_, .int .i64 a.st, .int .i64 a.day, .bool a.dt, .bool a.wr]
def AtA (w : World) (q : Nat) (a : Ac8) : Prop := w.heap[q]? = some (.cells (ac8A a) 164 (0, 0))
theorem AtA.cell {w : World} {q : Nat} {a : Ac8} (h : AtA w q a) (j : Nat) : w.cell? ⟨q, j, none⟩ = (ac8A a)[j]? := by
  simp [World.cell?, show w.heap[q]? = _ from h]
theorem AtA.below {w w' : World} {q : Nat} {a : Ac8} (h : AtA w q a) (hb : Below w.heap.size w w') : AtA w' q a := keep_of_below hb h
theorem ask41_r (o : Or) (q : Nat) (a : Ac8) (w : World) (hq : AtA w q a) :
    Calls Tryz.prog 113 (#[.agg (orcA o)] ++ #[.pointer (some ⟨q, 0, none⟩)]) w fun e w' => CkP (fun _ => True) w e w' := by
  have c4 : w.cell? ⟨q, 4, none⟩ = some (.int .i64 a.st) := hq.cell 4
  have hb1 : Below w.heap.size w (w.alloc (.cells (orcA o) 129)) := (Below.refl _ _).alloc (Nat.le_refl _) _
  have HF : Hid (∀ r : Bool, CkP (fun _ => True) w (.returned (.bool r)) (w.alloc (.cells (orcA o) 129))) := Lib.hid (fun r => ⟨r, rfl, trivial, hb1⟩)
  have hc4 := Lib.cell?_alloc_some (.cells (orcA o) 129) c4
  generalize CkP (fun _ => True) w = CP at *
  clear hb1 hq
  unfold orcA at *
  show Calls Tryz.prog 113 #[.agg #[.int .i64 o.s, .string o.h, .slice o.A o.n o.c], .pointer (some ⟨q, 0, none⟩)] w CP
  go_enter Tryz.func113, Tryz.ntmps113
  go_wp2_with fail
  first
    | exact HF.out _
    | (go_ret; exact HF.out _)
theorem ask51_r (o : Or) (q : Nat) (a : Ac8) (w : World) (hq : AtA w q a) :
    Calls Tryz.prog 115 (#[.agg (orcA o)] ++ #[.pointer (some ⟨q, 0, none⟩)]) w fun e w' => CkP (fun _ => True) w e w' := by
  have c3 : w.cell? ⟨q, 3, none⟩ = some (.string a.by_) := hq.cell 3
  have hb1 : Below w.heap.size w (w.alloc (.cells (orcA o) 129)) := (Below.refl _ _).alloc (Nat.le_refl _) _
  have HF : Hid (∀ r : Bool, CkP (fun _ => True) w (.returned (.bool r)) (w.alloc (.cells (orcA o) 129))) := Lib.hid (fun r => ⟨r, rfl, trivial, hb1⟩)
  have hc3 := Lib.cell?_alloc_some (.cells (orcA o) 129) c3
  generalize CkP (fun _ => True) w = CP at *
  clear hb1 hq
  unfold orcA at *
  show Calls Tryz.prog 115 #[.agg #[.int .i64 o.s, .string o.h, .slice o.A o.n o.c], .pointer (some ⟨q, 0, none⟩)] w CP
  go_enter Tryz.func115, Tryz.ntmps115
  go_wp2_with fail
  first
    | exact HF.out _
    | (go_ret; exact HF.out _)
end Go.Proofs.YtdinloecgaapaaaGreatDoor
