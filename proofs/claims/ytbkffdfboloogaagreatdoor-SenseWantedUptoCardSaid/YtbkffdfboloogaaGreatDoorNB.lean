/- Own rows of lots, and append to them. goods.counts: how many pieces of each good. -/
import Derived.Test.YtbkffdfboloogaaGreatDoorMC
import Derived.Test.YtbkffdfboloogaaGreatDoorGMap
import Derived.Maps.AppendAt
import Derived.Laws.OwnMore
import Derived.OwnWalk
import Derived.Lib.ItoaMem
import Derived.Test.YtbkffdfboloogaaGreatDoorMD
import Derived.Test.YtbkffdfboloogaaGreatDoorMZ
import Derived.Laws.EntriesVeiled
import Derived.OpenShut
namespace Go.Proofs.YtbkffdfboloogaaGreatDoor
open Go.RowKit Go.Maps Go.Lib
set_option linter.unusedVariables false
set_option maxRecDepth 100000

def lc (x : Lt) : List Value := [.string x.g, .int .i64 x.c]
def lcs (L : List Lt) : List Value := L.flatMap lc
def zl : List Value := [.string ⟨#[]⟩, .int .i64 0]
theorem info_lot : (Tryz.prog.info? 123).map (fun i => (i.zero, i.size, i.bytes)) = some (some (.agg zl.toArray), 2, 24) := by kernel_rfl
theorem lcs_len (L : List Lt) : (lcs L).length = L.length * 2 := by
  induction L with
  | nil => rfl
  | cons x L ih =>
    unfold lcs at *
    rw [List.flatMap_cons, List.length_append, ih, List.length_cons]
    simp [lc]
    omega
theorem lcs_app (L M : List Lt) : lcs (L ++ M) = lcs L ++ lcs M := List.flatMap_append
theorem lcs_at (L : List Lt) : ∀ (i : Nat) (x : Lt), L[i]? = some x → ∀ j, j < 2 → (lcs L)[i * 2 + j]? = (lc x)[j]? := by
  induction L with
  | nil => intro i x h; simp at h
  | cons y L ih =>
    intro i x h j hj
    unfold lcs at *
    rw [List.flatMap_cons]
    match i, h with
    | 0, h =>
      cases h
      rw [Nat.zero_mul, Nat.zero_add, List.getElem?_append_left (by simpa [lc] using hj)]
    | i + 1, h =>
      rw [List.getElem?_append_right (by simp [lc]; omega)]
      have : (i + 1) * 2 + j - (lc y).length = i * 2 + j := by simp [lc]; omega
      rw [this]
      exact ih i x h j hj
theorem lcs_one (L : List Lt) : ∀ u ∈ lcs L, u.oneCell' = true := by
  intro u hu
  obtain ⟨x, _, hu⟩ := List.mem_flatMap.1 hu
  simp only [lc, List.mem_cons, List.not_mem_nil, or_false] at hu
  rcases hu with rfl | rfl <;> rfl
/-- v is a slice of its own, in a block from base on, of the lots L -/
def Lw (w : World) (base : Nat) (v : Value) (L : List Lt) : Prop := w.ownsRow base 123 2 v L.length (lcs L)
section
variable {w w' : World} {base : Nat} {v : Value} {L : List Lt}
theorem Lw.lt (h : Lw w base v L) {q : Nat} (hq : v.ownBlock = some q) : base ≤ q ∧ q < w.heap.size := by
  rcases h.2 with ⟨h1, _⟩ | ⟨g, cap, cur, h1, h2, h3, _⟩
  · rw [h1] at hq; simp [Value.ownBlock] at hq
  · rw [h1] at hq
    simp [Value.ownBlock] at hq
    subst hq
    exact ⟨h2, (Array.getElem?_eq_some_iff.1 h3).1⟩
theorem Lw.keep (h : Lw w base v L) (hk : ∀ q, v.ownBlock = some q → w'.heap[q]? = w.heap[q]?) : Lw w' base v L := by
  refine ⟨h.1, ?_⟩
  rcases h.2 with h0 | ⟨g, cap, cur, h1, h2, h3, h4⟩
  · exact .inl h0
  · exact .inr ⟨g, cap, cur, h1, h2, (hk g (by rw [h1]; simp [Value.ownBlock])).trans h3, h4⟩
theorem Lw.below (h : Lw w base v L) (hb : Below w.heap.size w w') : Lw w' base v L := h.keep fun q hq => hb.block q (h.lt hq).2
theorem Lw.form (h : Lw w base v L) : ∃ A c, v = .slice A L.length c ∧ (A = none → c = 0) := by
  rcases h.2 with ⟨h1, h2⟩ | ⟨g, cap, cur, h1, _⟩
  · exact ⟨none, 0, by rw [h1, h2], fun _ => rfl⟩
  · exact ⟨_, _, h1, fun h => (by cases h)⟩
theorem Lw.nil (w : World) (base : Nat) : Lw w base (.slice none 0 0) [] := World.ownsRow_nil _ _ _ _
theorem Lw.lts {A : Option Addr} {c : Nat} (h : Lw w base (.slice A L.length c) L) : Lts w w.heap.size A L := by
  intro hl
  rcases h.2 with ⟨h1, h2⟩ | ⟨g, cap, cur, h1, h2, h3, h4⟩
  · omega
  · injection h1 with h1
    subst h1
    refine ⟨g, 0, rfl, (Array.getElem?_eq_some_iff.1 h3).1, fun i x hx => ?_⟩
    have hi := (List.getElem?_eq_some_iff.1 hx).1
    have k : ∀ j, j < 2 → w.cell? ⟨g, 0 + i * 2 + j, none⟩ = (lc x)[j]? := fun j hj => by
      rw [← lcs_at L i x hx j hj, Nat.zero_add]
      exact h.cellAt _ (by omega)
    exact ⟨k 0 (by omega), k 1 (by omega)⟩
end
/-- append of lots that stand anywhere to an own row -/
theorem app_lots {w : World} {base g off cap : Nat} (ty : TypeId) {v : Value} {L M : List Lt} (hv : Lw w base v L) (hs : LtAt w g off M) (hl : L.length + M.length ≤ 100000000) (hbase : base ≤ w.heap.size) :
    ∃ v' w', (Builtin.append_ #[40, 40] ty #[v, .slice (some ⟨g, off, none⟩) M.length cap]).run Tryz.prog w = .ok v' w' ∧ Lw w' base v' (L ++ M) ∧ w.grownBy w' v.ownBlock ∧ (v'.ownBlock = v.ownBlock ∨ v'.ownBlock = some w.heap.size) := by
  obtain ⟨i0, hi0, hz0, hz1, hz2⟩ := info_parts info_lot
  obtain ⟨v', w', hr, h2, h3, _, h5⟩ := run_append_own_at (P := Tryz.prog) (w := w) base 40 ty 123 i0 (.agg zl.toArray) 2 24 Tryz.underlying40 hi0 hz0 hz1 hz2 rfl (by omega) v L.length (lcs L) hv ⟨g, off, none⟩ M.length cap (lcs M) (lcs_len M) (fun j u hu => by
      have hj : j < M.length * 2 := by rw [← lcs_len M]; exact (List.getElem?_eq_some_iff.1 hu).1
      have hi : j / 2 < M.length := by omega
      have h := hs (j / 2) _ (List.getElem?_eq_getElem hi)
      have hm : j % 2 < 2 := Nat.mod_lt _ (by omega)
      have ha := lcs_at M (j / 2) _ (List.getElem?_eq_getElem hi) (j % 2) hm
      rw [show j / 2 * 2 + j % 2 = j by omega, hu] at ha
      rw [Lib.add_plain]
      have e : j % 2 = 0 ∨ j % 2 = 1 := by omega
      rcases e with e | e
      · rw [e] at ha
        rw [show off + j = off + j / 2 * 2 by omega, h.1]
        exact ha.symm
      · rw [e] at ha
        rw [show off + j = off + j / 2 * 2 + 1 by omega, h.2]
        exact ha.symm) (lcs_one M) (by unfold maxLen; omega) (by omega) hbase
  exact ⟨v', w', hr, by unfold Lw; rw [List.length_append, lcs_app]; exact h2, h3, h5⟩
/-- append of an empty slice -/
theorem app_noLots {w : World} {base cap : Nat} {A : Option Addr} (ty : TypeId) {v : Value} {L : List Lt} (hv : Lw w base v L) (hA : A = none → cap = 0) (hl : L.length ≤ 100000000) (hbase : base ≤ w.heap.size) :
    ∃ v' w', (Builtin.append_ #[40, 40] ty #[v, .slice A 0 cap]).run Tryz.prog w = .ok v' w' ∧ Lw w' base v' L ∧ w.grownBy w' v.ownBlock ∧ (v'.ownBlock = v.ownBlock ∨ v'.ownBlock = some w.heap.size) := by
  obtain ⟨i0, hi0, hz0, hz1, hz2⟩ := info_parts info_lot
  cases A with
  | none =>
    rw [hA rfl]
    exact ⟨v, w, run_append_owned_none w base 40 ty 123 i0 2 Tryz.underlying40 hi0 v _ _ hv, hv, World.grownBy_refl' _ _, .inl rfl⟩
  | some a =>
    obtain ⟨v', w', hr, h2, h3, _, h5⟩ := run_append_own_at (P := Tryz.prog) (w := w) base 40 ty 123 i0 (.agg zl.toArray) 2 24 Tryz.underlying40 hi0 hz0 hz1 hz2 rfl (by omega) v L.length (lcs L) hv a 0 cap [] rfl (fun j u hu => by simp at hu) (fun u hu => by cases hu) (by unfold maxLen; omega) (by omega) hbase
    exact ⟨v', w', hr, by rw [List.append_nil] at h2; exact h2, h3, h5⟩
/-- append of any slice of lots -/
theorem app_anyLots {w : World} {base B cap : Nat} {A : Option Addr} (ty : TypeId) {v : Value} {L M : List Lt} (hv : Lw w base v L) (hs : Lts w B A M) (hA : A = none → cap = 0) (hl : L.length + M.length ≤ 100000000) (hbase : base ≤ w.heap.size) :
    ∃ v' w', (Builtin.append_ #[40, 40] ty #[v, .slice A M.length cap]).run Tryz.prog w = .ok v' w' ∧ Lw w' base v' (L ++ M) ∧ w.grownBy w' v.ownBlock ∧ (v'.ownBlock = v.ownBlock ∨ v'.ownBlock = some w.heap.size) := by
  by_cases h0 : M.length = 0
  · have e : M = [] := List.length_eq_zero_iff.1 h0
    subst e
    rw [List.append_nil]
    exact app_noLots ty hv hA (by simp at hl; exact hl) hbase
  · obtain ⟨g, off, rfl, hg, hc⟩ := hs (by omega)
    exact app_lots ty hv hc hl hbase
/-- a row of one lot, just built -/
theorem one_lot (W : World) (x : Lt) : LtAt (W.alloc (.cells #[.string x.g, .int .i64 x.c] 123)) W.heap.size 0 [x] := fun i y hy => by
  match i, hy with
  | 0, hy => cases hy; exact ⟨by simp, by simp⟩
  | i + 1, hy => simp at hy
end Go.Proofs.YtbkffdfboloogaaGreatDoor
namespace Go.Proofs.YtbkffdfboloogaaGreatDoor
open Go.RowKit Go.Maps Go.Lib
set_option linter.unusedVariables false
set_option maxRecDepth 100000

noncomputable def cntE : ElC Int := intE Tryz.prog 3 Tryz.underlying3
theorem zeroIntW (w : World) : (zeroValue 3).run Tryz.prog w = .ok (.int .i64 0) w := by kernel_rfl
theorem wrap_okW (y : Int) : cntE.ok (IntKind.i64.wrap y) := Go.wf_wrap .i64 y
/-- each key is one of some goods -/
def KeysIn (G : ByteArray → Option Int) (L : List Lt) : Prop := ∀ x v, G x = some v → ∃ y ∈ L, y.g = x
theorem KeysIn.put {G : ByteArray → Option Int} {L : List Lt} (h : KeysIn G L) {y : Lt} (hy : y ∈ L) (v : Int) : KeysIn (putG G y.g v) L := fun x u hu => by
  by_cases e : x = y.g
  · exact ⟨y, hy, e.symm⟩
  · rw [putG_other _ _ e] at hu
    exact h x u hu
set_option maxHeartbeats 4000000 in
theorem counts_any (L : List Lt) (A : Option Addr) (c B : Nat) (w : World) (hL : Lts w B A L) (hB : B ≤ w.heap.size) (hl : L.length ≤ 100000000) (hg : ∀ x ∈ L, x.g.size ≤ 1048576) :
    Calls Tryz.prog 138 #[.slice A L.length c] w fun e w' => ∃ mb G, e = .returned (.map (some mb)) ∧ Mp curC cntE w' mb L.length G ∧ KeysIn G L ∧ w.heap.size ≤ mb ∧ Below w.heap.size w w' := by
  have hmm := @run_makeMap Tryz.prog
  have HL := Lib.hid (hL.more hB)
  have Hg := Lib.hid hg
  have HM0 : Hid (Mp curC cntE (w.alloc (.map #[] 0)) w.heap.size 0 (fun _ => none)) := Lib.hid (Mp.made w)
  have HB0 : Hid (Below w.heap.size w (w.alloc (.map #[] 0))) := Lib.hid ((Below.refl _ _).alloc (Nat.le_refl _) _)
  clear hL hg
  go_enter Tryz.func138, Tryz.ntmps138
  go_wp2_with fail
  clear hmm
  go_loopw [9] (fun i wr => ∃ (k : Nat) (G : ByteArray → Option Int), k ≤ L.length ∧ i = .int .i64 (k : Int) ∧ Hid (Mp curC cntE wr w.heap.size k G) ∧ Hid (KeysIn G L) ∧ Hid (Below w.heap.size w wr)) (fun i _ => L.length - (RowKit.intOf i).toNat)
  case atStart => exact ⟨0, _, Nat.zero_le _, rfl, HM0, Lib.hid (fun x v h => by cases h), HB0⟩
  case round =>
    clear HM0 HB0
    obtain ⟨k, G, hk, rfl, HM, HK, HB⟩ := hrel
    have hsz := HB.out.size
    by_cases hlt : k < L.length
    · have b1 : (k : Int) < (L.length : Int) := by omega
      have b0 : (0 : Int) ≤ (k : Int) := by omega
      obtain ⟨g, off, rfl, hgb, c0, c1⟩ := (HL.out.kept HB.out).at_ hlt
      have Hmem := Lib.hid (show L[k] ∈ L from List.getElem_mem hlt)
      have hgs := Hg.out _ Hmem.out
      have hba : Below wr.heap.size wr (wr.alloc (.cells #[.string L[k].g, .int .i64 L[k].c] 123)) := (Below.refl _ _).alloc (Nat.le_refl _) _
      have HMa := Lib.hid (HM.out.alloc (.cells #[.string L[k].g, .int .i64 L[k].c] 123))
      have HBa := Lib.hid (HB.out.trans (hba.mono hsz))
      obtain ⟨x, hx⟩ : ∃ x, L[k] = x := ⟨_, rfl⟩
      rw [hx] at c0 c1 Hmem hgs HMa HBa
      clear hx hba HM
      by_cases hc : 0 < x.c
      · have hlk : (Instr.lookup 171 (.map (some w.heap.size)) (.string x.g) false).run Tryz.prog (wr.alloc (.cells #[.string x.g, .int .i64 x.c] 123)) = .ok (.int .i64 ((G x.g).getD 0)) (wr.alloc (.cells #[.string x.g, .int .i64 x.c] 123)) := HMa.out.look Tryz.underlying171 (zeroIntW _) (by show (Lit.int .i64 0).wf = true; decide) (x := x.g) (by show x.g.size ≤ maxLen; unfold maxLen; omega)
        obtain ⟨w4, hst, hM4, hg4⟩ := HMa.out.store Tryz.underlying171 (by unfold maxLen; omega) (x := x.g) (by show x.g.size ≤ maxLen; unfold maxLen; omega) (v := IntKind.i64.wrap ((G x.g).getD 0 + x.c)) (wrap_okW _)
        have hst' : (Instr.mapUpdate 171 (.map (some w.heap.size)) (.string x.g) (.int .i64 (IntKind.i64.wrap ((G x.g).getD 0 + x.c)))).run Tryz.prog (wr.alloc (.cells #[.string x.g, .int .i64 x.c] 123)) = .ok () w4 := hst
        clear hst
        have HM4 := Lib.hid hM4
        generalize hz : IntKind.i64.wrap ((G x.g).getD 0 + x.c) = z at *
        generalize (G x.g).getD 0 = y0 at *
        have HK4 := Lib.hid (HK.out.put Hmem.out z)
        have HB4 := Lib.hid (HBa.out.grown hg4.grown (by have := HBa.out.size; omega) (fun j hj => by injection hj with hj; omega))
        clear hM4 hg4 HMa HBa HB HK
        go_wp2_with fail
        go_roundw
        case rel => exact ⟨k + 1, _, by omega, by go_num, HM4, HK4, HB4⟩
        case measure => simp [RowKit.intOf]; omega
      · have HM5 := Lib.hid (HMa.out.mono (Nat.le_succ k))
        go_wp2_with fail
        go_roundw
        case rel => exact ⟨k + 1, G, by omega, by go_num, HM5, HK, HBa⟩
        case measure => simp [RowKit.intOf]; omega
    · have b1 : ¬ (k : Int) < (L.length : Int) := by omega
      have HM5 := Lib.hid (HM.out.mono hk)
      go_wp2_with fail
      go_ret
      first
        | exact ⟨w.heap.size, G, rfl, HM5.out, HK.out, Nat.le_refl _, HB.out⟩
        | exact ⟨w.heap.size, rfl, G, HM5.out, HK.out, Nat.le_refl _, HB.out⟩
end Go.Proofs.YtbkffdfboloogaaGreatDoor
