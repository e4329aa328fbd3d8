/- slices.Clone of parties, entries, deals, texts: by their cells. An own row of texts: one more, sorted, cloned. ref54.deals: which deals may be. -/
import Derived.Test.YtchkdidpnjakeaaGreatDoorGBPyRow
import Derived.Test.YtchkdidpnjakeaaGreatDoorGBOfs
import Derived.Sort.OwnSorted
import Derived.Laws.AppendOwn
import Derived.Lib.AppendZeros
import Derived.Shelf.Abstract
import Derived.Test.YtchkdidpnjakeaaGreatDoorGMRef3
namespace Go.Proofs.YtchkdidpnjakeaaGreatDoor
open Go.RowKit Go.Maps Go.Lib
set_option linter.unusedVariables false
set_option maxRecDepth 100000

theorem infoCPy : (Tryz.prog.info? 38).map (fun i => (i.zero, i.size, i.bytes)) = some (some (.agg #[.string ⟨#[]⟩, .string ⟨#[]⟩, .int .i64 0]), 3, 40) := by kernel_rfl
set_option maxHeartbeats 1000000 in
theorem clonePy (A : Option Addr) (n c : Nat) (vs : List Value) (w : World) (hl : vs.length = n * 3) (hA : A = none → n = 0) (hc : ∀ ad, A = some ad → ∀ j u, vs[j]? = some u → w.cell? (ad.add j) = some u) (h1 : ∀ u ∈ vs, u.oneCell' = true) (hn : n ≤ 100000000) :
    Calls Tryz.prog 41 #[.slice A n c] w fun e w' => ∃ A' c', e = .returned (.slice A' n c') ∧ w'.ownsRow w.heap.size 38 3 (.slice A' n c') n vs ∧ Below w.heap.size w w' := by
  have q22 : ∀ (w : World) (a : Option Addr) (n c n' c' : Nat), (binOp .eql 22 (.slice a n c) (.slice none n' c')).run Tryz.prog w = .ok (.bool a.isNone) w := fun w a n c n' c' => Lib.run_eql_slice_nil w _ _ a n c n' c' Tryz.underlying22
  cases A with
  | none =>
    have h0 := hA rfl
    subst h0
    have hv : vs = [] := List.length_eq_zero_iff.1 (by omega)
    subst hv
    go_enter Tryz.func41, Tryz.ntmps41
    go_wp2
    go_ret
    exact ⟨none, 0, rfl, World.ownsRow_nil _ _ _ _, Below.refl _ _⟩
  | some ad =>
    obtain ⟨i0, hi, hz0, hz1, hz2⟩ := info_parts infoCPy
    have Hc := Lib.hid (hc ad rfl)
    clear hc
    go_enter Tryz.func41, Tryz.ntmps41
    go_wp2_with (at_builtin; refine wpList_append_own _ rfl _ _ 22 rfl w.heap.size 38 i0 _ 3 40 Tryz.underlying22 hi hz0 hz1 hz2 rfl (by decide) _ _ _ rfl (World.ownsRow_made w #[] 0 (Nat.le_refl _) (Nat.zero_le _) rfl) ad n c vs rfl ?qc1 ?qc2 ?qc3 ?qc4 ?qc5 ?qc6 ?_)
    case qc1 => exact hl
    case qc2 =>
      intro j u hj
      exact Lib.cell?_alloc_some _ (Hc.out j u hj)
    case qc3 => exact h1
    case qc4 => unfold maxLen; omega
    case qc5 => omega
    case qc6 => simp
    intro v' w1 hown hgrow hnil
    go_wp2
    go_ret
    have hown' : w1.ownsRow w.heap.size 38 3 v' n vs := by simpa using hown
    obtain ⟨A', c', rfl⟩ : ∃ A' c', v' = .slice A' n c' := by
      rcases hown'.2 with ⟨h1, hn⟩ | ⟨g, cap, cur, he, _⟩
      · exact ⟨none, 0, by rw [h1, hn]⟩
      · exact ⟨_, _, he⟩
    exact ⟨A', c', rfl, hown', ((Below.refl _ w).alloc (Nat.le_refl _) _).grown hgrow (by simp) (by intro k hk; simp [Value.ownBlock] at hk; omega)⟩
theorem infoCEn : (Tryz.prog.info? 51).map (fun i => (i.zero, i.size, i.bytes)) = some (some (.agg #[.string ⟨#[]⟩, .string ⟨#[]⟩, .int .i64 0]), 3, 40) := by kernel_rfl
set_option maxHeartbeats 1000000 in
theorem cloneEn (A : Option Addr) (n c : Nat) (vs : List Value) (w : World) (hl : vs.length = n * 3) (hA : A = none → n = 0) (hc : ∀ ad, A = some ad → ∀ j u, vs[j]? = some u → w.cell? (ad.add j) = some u) (h1 : ∀ u ∈ vs, u.oneCell' = true) (hn : n ≤ 100000000) :
    Calls Tryz.prog 42 #[.slice A n c] w fun e w' => ∃ A' c', e = .returned (.slice A' n c') ∧ w'.ownsRow w.heap.size 51 3 (.slice A' n c') n vs ∧ Below w.heap.size w w' := by
  have q22 : ∀ (w : World) (a : Option Addr) (n c n' c' : Nat), (binOp .eql 24 (.slice a n c) (.slice none n' c')).run Tryz.prog w = .ok (.bool a.isNone) w := fun w a n c n' c' => Lib.run_eql_slice_nil w _ _ a n c n' c' Tryz.underlying24
  cases A with
  | none =>
    have h0 := hA rfl
    subst h0
    have hv : vs = [] := List.length_eq_zero_iff.1 (by omega)
    subst hv
    go_enter Tryz.func42, Tryz.ntmps42
    go_wp2
    go_ret
    exact ⟨none, 0, rfl, World.ownsRow_nil _ _ _ _, Below.refl _ _⟩
  | some ad =>
    obtain ⟨i0, hi, hz0, hz1, hz2⟩ := info_parts infoCEn
    have Hc := Lib.hid (hc ad rfl)
    clear hc
    go_enter Tryz.func42, Tryz.ntmps42
    go_wp2_with (at_builtin; refine wpList_append_own _ rfl _ _ 24 rfl w.heap.size 51 i0 _ 3 40 Tryz.underlying24 hi hz0 hz1 hz2 rfl (by decide) _ _ _ rfl (World.ownsRow_made w #[] 0 (Nat.le_refl _) (Nat.zero_le _) rfl) ad n c vs rfl ?qc1 ?qc2 ?qc3 ?qc4 ?qc5 ?qc6 ?_)
    case qc1 => exact hl
    case qc2 =>
      intro j u hj
      exact Lib.cell?_alloc_some _ (Hc.out j u hj)
    case qc3 => exact h1
    case qc4 => unfold maxLen; omega
    case qc5 => omega
    case qc6 => simp
    intro v' w1 hown hgrow hnil
    go_wp2
    go_ret
    have hown' : w1.ownsRow w.heap.size 51 3 v' n vs := by simpa using hown
    obtain ⟨A', c', rfl⟩ : ∃ A' c', v' = .slice A' n c' := by
      rcases hown'.2 with ⟨h1, hn⟩ | ⟨g, cap, cur, he, _⟩
      · exact ⟨none, 0, by rw [h1, hn]⟩
      · exact ⟨_, _, he⟩
    exact ⟨A', c', rfl, hown', ((Below.refl _ w).alloc (Nat.le_refl _) _).grown hgrow (by simp) (by intro k hk; simp [Value.ownBlock] at hk; omega)⟩
theorem infoCDl : (Tryz.prog.info? 72).map (fun i => (i.zero, i.size, i.bytes)) = some (some (.agg #[.string ⟨#[]⟩, .string ⟨#[]⟩, .string ⟨#[]⟩, .string ⟨#[]⟩, .string ⟨#[]⟩, .string ⟨#[]⟩, .string ⟨#[]⟩, .string ⟨#[]⟩, .string ⟨#[]⟩, .string ⟨#[]⟩, .int .i64 0, .slice none 0 0, .int .i64 0, .int .i64 0, .int .i64 0, .int .i64 0, .int .i64 0]), 17, 232) := by kernel_rfl
set_option maxHeartbeats 1000000 in
theorem cloneDl (A : Option Addr) (n c : Nat) (vs : List Value) (w : World) (hl : vs.length = n * 17) (hA : A = none → n = 0) (hc : ∀ ad, A = some ad → ∀ j u, vs[j]? = some u → w.cell? (ad.add j) = some u) (h1 : ∀ u ∈ vs, u.oneCell' = true) (hn : n ≤ 100000000) :
    Calls Tryz.prog 44 #[.slice A n c] w fun e w' => ∃ A' c', e = .returned (.slice A' n c') ∧ w'.ownsRow w.heap.size 72 17 (.slice A' n c') n vs ∧ Below w.heap.size w w' := by
  have q22 : ∀ (w : World) (a : Option Addr) (n c n' c' : Nat), (binOp .eql 23 (.slice a n c) (.slice none n' c')).run Tryz.prog w = .ok (.bool a.isNone) w := fun w a n c n' c' => Lib.run_eql_slice_nil w _ _ a n c n' c' Tryz.underlying23
  cases A with
  | none =>
    have h0 := hA rfl
    subst h0
    have hv : vs = [] := List.length_eq_zero_iff.1 (by omega)
    subst hv
    go_enter Tryz.func44, Tryz.ntmps44
    go_wp2
    go_ret
    exact ⟨none, 0, rfl, World.ownsRow_nil _ _ _ _, Below.refl _ _⟩
  | some ad =>
    obtain ⟨i0, hi, hz0, hz1, hz2⟩ := info_parts infoCDl
    have Hc := Lib.hid (hc ad rfl)
    clear hc
    go_enter Tryz.func44, Tryz.ntmps44
    go_wp2_with (at_builtin; refine wpList_append_own _ rfl _ _ 23 rfl w.heap.size 72 i0 _ 17 232 Tryz.underlying23 hi hz0 hz1 hz2 rfl (by decide) _ _ _ rfl (World.ownsRow_made w #[] 0 (Nat.le_refl _) (Nat.zero_le _) rfl) ad n c vs rfl ?qc1 ?qc2 ?qc3 ?qc4 ?qc5 ?qc6 ?_)
    case qc1 => exact hl
    case qc2 =>
      intro j u hj
      exact Lib.cell?_alloc_some _ (Hc.out j u hj)
    case qc3 => exact h1
    case qc4 => unfold maxLen; omega
    case qc5 => omega
    case qc6 => simp
    intro v' w1 hown hgrow hnil
    go_wp2
    go_ret
    have hown' : w1.ownsRow w.heap.size 72 17 v' n vs := by simpa using hown
    obtain ⟨A', c', rfl⟩ : ∃ A' c', v' = .slice A' n c' := by
      rcases hown'.2 with ⟨h1, hn⟩ | ⟨g, cap, cur, he, _⟩
      · exact ⟨none, 0, by rw [h1, hn]⟩
      · exact ⟨_, _, he⟩
    exact ⟨A', c', rfl, hown', ((Below.refl _ w).alloc (Nat.le_refl _) _).grown hgrow (by simp) (by intro k hk; simp [Value.ownBlock] at hk; omega)⟩
theorem infoCSt : (Tryz.prog.info? 9).map (fun i => (i.zero, i.size, i.bytes)) = some (some (.string ⟨#[]⟩), 1, 16) := by kernel_rfl
set_option maxHeartbeats 1000000 in
theorem cloneSt (A : Option Addr) (n c : Nat) (vs : List Value) (w : World) (hl : vs.length = n * 1) (hA : A = none → n = 0) (hc : ∀ ad, A = some ad → ∀ j u, vs[j]? = some u → w.cell? (ad.add j) = some u) (h1 : ∀ u ∈ vs, u.oneCell' = true) (hn : n ≤ 100000000) :
    Calls Tryz.prog 32 #[.slice A n c] w fun e w' => ∃ A' c', e = .returned (.slice A' n c') ∧ w'.ownsRow w.heap.size 9 1 (.slice A' n c') n vs ∧ Below w.heap.size w w' := by
  have q22 : ∀ (w : World) (a : Option Addr) (n c n' c' : Nat), (binOp .eql 47 (.slice a n c) (.slice none n' c')).run Tryz.prog w = .ok (.bool a.isNone) w := fun w a n c n' c' => Lib.run_eql_slice_nil w _ _ a n c n' c' Tryz.underlying47
  cases A with
  | none =>
    have h0 := hA rfl
    subst h0
    have hv : vs = [] := List.length_eq_zero_iff.1 (by omega)
    subst hv
    go_enter Tryz.func32, Tryz.ntmps32
    go_wp2
    go_ret
    exact ⟨none, 0, rfl, World.ownsRow_nil _ _ _ _, Below.refl _ _⟩
  | some ad =>
    obtain ⟨i0, hi, hz0, hz1, hz2⟩ := info_parts infoCSt
    have Hc := Lib.hid (hc ad rfl)
    clear hc
    go_enter Tryz.func32, Tryz.ntmps32
    go_wp2_with (at_builtin; refine wpList_append_own _ rfl _ _ 47 rfl w.heap.size 9 i0 _ 1 16 Tryz.underlying47 hi hz0 hz1 hz2 rfl (by decide) _ _ _ rfl (World.ownsRow_made w #[] 0 (Nat.le_refl _) (Nat.zero_le _) rfl) ad n c vs rfl ?qc1 ?qc2 ?qc3 ?qc4 ?qc5 ?qc6 ?_)
    case qc1 => exact hl
    case qc2 =>
      intro j u hj
      exact Lib.cell?_alloc_some _ (Hc.out j u hj)
    case qc3 => exact h1
    case qc4 => unfold maxLen; omega
    case qc5 => omega
    case qc6 => simp
    intro v' w1 hown hgrow hnil
    go_wp2
    go_ret
    have hown' : w1.ownsRow w.heap.size 9 1 v' n vs := by simpa using hown
    obtain ⟨A', c', rfl⟩ : ∃ A' c', v' = .slice A' n c' := by
      rcases hown'.2 with ⟨h1, hn⟩ | ⟨g, cap, cur, he, _⟩
      · exact ⟨none, 0, by rw [h1, hn]⟩
      · exact ⟨_, _, he⟩
    exact ⟨A', c', rfl, hown', ((Below.refl _ w).alloc (Nat.le_refl _) _).grown hgrow (by simp) (by intro k hk; simp [Value.ownBlock] at hk; omega)⟩
end Go.Proofs.YtchkdidpnjakeaaGreatDoor
namespace Go.Proofs.YtchkdidpnjakeaaGreatDoor
open Go.RowKit Go.Maps Go.Lib Go.Sort
set_option linter.unusedVariables false
set_option maxRecDepth 100000

theorem lt_of_heapM {w : World} {g : Nat} {o : Obj} (h : w.heap[g]? = some o) : g < w.heap.size := (Array.getElem?_eq_some_iff.1 h).1
/-- an own row of texts -/
def Ow (w : World) (base : Nat) (v : Value) (L : List ByteArray) : Prop := w.ownsRow base 9 1 v L.length (L.map Value.string)
theorem Ow.nil (w : World) (base : Nat) : Ow w base (.slice none 0 0) [] := World.ownsRow_nil _ _ _ _
theorem Ow.keep {w w' : World} {base : Nat} {v : Value} {L : List ByteArray} (h : Ow w base v L) (hk : ∀ q, v.ownBlock = some q → w'.heap[q]? = w.heap[q]?) : Ow w' base v L := by
  refine ⟨h.1, ?_⟩
  rcases h.2 with h2 | ⟨g, cap, cur, e, hb, hg, h4⟩
  · exact .inl h2
  · refine .inr ⟨g, cap, cur, e, hb, ?_, h4⟩
    rw [hk g (by rw [e]; rfl)]
    exact hg
theorem Ow.lt {w : World} {base : Nat} {v : Value} {L : List ByteArray} (h : Ow w base v L) {q : Nat} (hq : v.ownBlock = some q) : base ≤ q ∧ q < w.heap.size := by
  rcases h.2 with ⟨h1, _⟩ | ⟨g, cap, cur, h1, h2, h3, _⟩
  · rw [h1] at hq; simp [Value.ownBlock] at hq
  · rw [h1] at hq
    simp [Value.ownBlock] at hq
    subst hq
    exact ⟨h2, lt_of_heapM h3⟩
theorem Ow.form {w : World} {base : Nat} {v : Value} {L : List ByteArray} (h : Ow w base v L) : ∃ A c, v = .slice A L.length c := by
  rcases h.2 with ⟨h1, h2⟩ | ⟨g, cap, cur, h1, _⟩
  · exact ⟨none, 0, by rw [h1, h2]⟩
  · exact ⟨_, _, h1⟩
theorem str_infoR : (Tryz.prog.info? 9).map (fun i => (i.zero, i.size, i.bytes)) = some (some (.string ⟨#[]⟩), 1, 16) := by kernel_rfl
/-- one text more -/
theorem Ow.more {w : World} {base : Nat} {A : Option Addr} {c : Nat} {L : List ByteArray} (h : Ow w base (.slice A L.length c) L) (x : ByteArray) (hl : L.length ≤ 100000) (hb : base ≤ w.heap.size) :
    ∃ A' c' w', (Builtin.append_ #[47, 47] 47 #[.slice A L.length c, .slice (some ⟨w.heap.size, 0, none⟩) 1 1]).run Tryz.prog (w.alloc (.cells #[.string x] 9)) = .ok (.slice A' (L.length + 1) c') w' ∧ Ow w' base (.slice A' (L.length + 1) c') (L ++ [x]) ∧ (w.alloc (.cells #[.string x] 9)).grownBy w' (Value.slice A L.length c).ownBlock := by
  obtain ⟨i0, hi0, hz0, hz1, hz2⟩ := info_parts str_infoR
  have hba : Below w.heap.size w (w.alloc (.cells #[.string x] 9)) := (Below.refl _ _).alloc (Nat.le_refl _) _
  have h1 : Ow (w.alloc (.cells #[.string x] 9)) base (.slice A L.length c) L := h.keep fun q hq => hba.block q (h.lt hq).2
  have hs : (w.alloc (.cells #[.string x] 9)).heap.size = w.heap.size + 1 := by simp
  obtain ⟨v', w', hr, h2, h3, _, h5⟩ := run_append_own_at (P := Tryz.prog) (w := w.alloc (.cells #[.string x] 9)) base 47 47 9 i0 (.string ⟨#[]⟩) 1 16 Tryz.underlying47 hi0 hz0 hz1 hz2 rfl (by omega) (.slice A L.length c) L.length (L.map Value.string) h1 ⟨w.heap.size, 0, none⟩ 1 1 [.string x] rfl (fun j u hu => by
      match j, hu with
      | 0, hu => simp at hu; subst hu; simp [Addr.add]
      | j + 1, hu => simp at hu) (by intro u hu; simp at hu; subst hu; rfl) (by unfold maxLen; omega) (by omega) (by omega)
  have h2' : Ow w' base v' (L ++ [x]) := by
    unfold Ow
    rw [List.length_append, List.map_append]
    exact h2
  obtain ⟨A', c', rfl⟩ := h2'.form
  have hlen : (L ++ [x]).length = L.length + 1 := by simp
  rw [hlen] at hr h2'
  exact ⟨A', c', w', hr, h2', h3⟩
theorem ba_map (L : List ByteArray) : L.map Value.string = (L.map (·.data.toList)).map encStr := by
  rw [List.map_map]
  rfl
theorem Ow.below {w w' : World} {base : Nat} {v : Value} {L : List ByteArray} (h : Ow w base v L) (hb : Below w.heap.size w w') : Ow w' base v L := h.keep fun q hq => hb.block q (h.lt hq).2
theorem Ow.at_ {w : World} {base c : Nat} {A : Option Addr} {L : List ByteArray} (h : Ow w base (.slice A L.length c) L) {k : Nat} (hk : k < L.length) : ∃ g, A = some ⟨g, 0, none⟩ ∧ base ≤ g ∧ g < w.heap.size ∧ w.cell? ⟨g, k, none⟩ = some (.string L[k]) := by
  rcases h.2 with ⟨h1, h2⟩ | ⟨g, cap, cur, h1, h2, h3, h4⟩
  · omega
  · injection h1 with h1 _ h1c
    subst h1 h1c
    refine ⟨g, rfl, h2, (Array.getElem?_eq_some_iff.1 h3).1, ?_⟩
    rw [World.ownsRow.cellAt h k (by omega), List.getElem?_map, List.getElem?_eq_getElem hk]
    rfl
/-- slices.Sort of an own row of texts: the same texts -/
def SoP (base : Nat) (A : Option Addr) (c : Nat) (L : List ByteArray) (w : World) (e : Ending) (w' : World) : Prop :=
  e = .returned (.tuple #[]) ∧ ∃ L', L'.Perm L ∧ Ow w' base (.slice A L'.length c) L' ∧ w.grownBy w' (Value.slice A L.length c).ownBlock
theorem sort_o (base : Nat) (A : Option Addr) (c : Nat) (L : List ByteArray) (w : World) (h : Ow w base (.slice A L.length c) L) (hb : base ≤ w.heap.size) (hl : L.length ≤ 100000) :
    Calls Tryz.prog 20 #[.slice A L.length c] w fun e w' => SoP base A c L w e w' := by
  rcases h.2 with ⟨h1, h2⟩ | ⟨g, cap, cur, h1, h2, h3, h4, h5, h6, h7⟩
  · have hL : L = [] := List.length_eq_zero_iff.1 h2
    subst hL
    injection h1 with h1 _ h1c
    subst h1 h1c
    refine (AnyM.slices_Sort_string_none Tryz.sort20 none 0 w).mono ?_
    rintro e w' ⟨rfl, rfl⟩
    exact ⟨rfl, [], List.Perm.refl _, h, ⟨rfl, rfl, rfl, Nat.le_refl _, fun _ _ _ => rfl⟩⟩
  · injection h1 with h1 _ h1c
    subst h1 h1c
    have hlt := lt_of_heapM h3
    have hss : (L.map (·.data.toList)).length = L.length := by simp
    rw [Nat.mul_one, ba_map, ← hss] at h7
    have hc := AnyM.slices_Sort_string Tryz.sort20 g 0 c (L.map (·.data.toList)) w (holds_of_block h3 h7) hlt (by rw [hss]; omega)
    rw [hss] at hc
    refine Calls.mono hc ?_
    rintro e w' ⟨rfl, n, os, rfl⟩
    have hlen : ((L.map (·.data.toList)).mergeSort fun x y => decide (x ≤ y)).length = (L.map (·.data.toList)).length := by simp
    have hown := ownsRow_sorted (w := w) (n := n) (os := os) (ts := (L.map (·.data.toList)).mergeSort fun x y => decide (x ≤ y)) hlen h2 h3 (by rw [hss]; exact h4) h5 h6
    have hgr := grownBy_sorted (w := w) (g := g) (n := n) (os := os) ((L.map (·.data.toList)).mergeSort fun x y => decide (x ≤ y)).toArray
    obtain ⟨L', hL'⟩ : ∃ L', L' = ((L.map (·.data.toList)).mergeSort fun x y => decide (x ≤ y)).map (fun l => (⟨l.toArray⟩ : ByteArray)) := ⟨_, rfl⟩
    have hll : L'.length = L.length := by rw [hL']; simp
    have hpe : L'.Perm L := by
      have h0 := (List.mergeSort_perm (L.map (·.data.toList)) fun x y => decide (x ≤ y)).map (fun l => (⟨l.toArray⟩ : ByteArray))
      rw [List.map_map] at h0
      have e2 : L.map ((fun l => (⟨l.toArray⟩ : ByteArray)) ∘ fun x => x.data.toList) = L := by
        conv => rhs; rw [← List.map_id L]
        refine List.map_congr_left fun y _ => ?_
        show (⟨y.data.toList.toArray⟩ : ByteArray) = y
        apply ByteArray.ext
        simp
      rw [e2] at h0
      rw [hL']
      exact h0
    refine ⟨rfl, L', hpe, ?_, hgr⟩
    rw [hll]
    rw [hss] at hown
    have e2 : ((L.map (·.data.toList)).mergeSort fun x y => decide (x ≤ y)).map encStr = L'.map Value.string := by
      rw [hL', List.map_map]
      rfl
    rw [e2] at hown
    unfold Ow
    rw [hll]
    exact hown
end Go.Proofs.YtchkdidpnjakeaaGreatDoor
namespace Go.Proofs.YtchkdidpnjakeaaGreatDoor
open Go.RowKit Go.Maps Go.Lib Led
set_option linter.unusedVariables false
set_option maxRecDepth 100000

theorem Ow.push {w0 X : World} {B c : Nat} {A : Option Addr} {L : List ByteArray} (h : Ow X B (.slice A L.length c) L) (hb : Below B w0 X) (hB : B ≤ X.heap.size) (x : ByteArray) (hl : L.length ≤ 100000) :
    ∃ A' c' w', (Builtin.append_ #[47, 47] 47 #[.slice A L.length c, .slice (some ⟨X.heap.size, 0, none⟩) 1 1]).run Tryz.prog (X.alloc (.cells #[.string x] 9)) = .ok (.slice A' (L.length + 1) c') w' ∧ Ow w' B (.slice A' (L ++ [x]).length c') (L ++ [x]) ∧ Below B w0 w' := by
  obtain ⟨A', c', w', h1, h2, h3⟩ := h.more x hl hB
  refine ⟨A', c', w', h1, by rw [List.length_append]; exact h2, (hb.alloc hB _).grown h3 (by simp; omega) fun j hj => ?_⟩
  exact (h.lt hj).1
theorem BoolQ.of_true {T : Prop} {w : World} {e : Ending} {w' : World} (h : BoolQ T w e w') (hT : T) : e = .returned (.bool true) ∧ Below w.heap.size w w' := by
  obtain ⟨r, rfl, hr, hb⟩ := h
  rw [hr.2 hT]
  exact ⟨rfl, hb⟩
theorem BoolQ.of_false {T : Prop} {w : World} {e : Ending} {w' : World} (h : BoolQ T w e w') (hT : ¬ T) : e = .returned (.bool false) ∧ Below w.heap.size w w' := by
  obtain ⟨r, rfl, hr, hb⟩ := h
  cases r with
  | false => exact ⟨rfl, hb⟩
  | true => exact absurd (hr.1 rfl) hT
/-- the texts of a setup's deals are texts -/
structure DsSz (ds : List Dl) : Prop where
  few : ds.length ≤ 6
  txt : ∀ d ∈ ds, DlSz d
  box : ∀ d ∈ ds, d.box.length ≤ 100000000
  bx : ∀ d ∈ ds, ∀ b ∈ d.box, BxSz b
set_option maxHeartbeats 16000000 in
theorem deals_d {w : World} {u : Su} {a : Sa} (hA : SuAt w w.heap.size u a) (hp0 : u.par.length ≤ 100000000) (hz : DsSz u.dl) :
    Calls Tryz.prog 16 #[.agg #[.slice a.PA u.par.length a.pc, .slice a.DA u.dl.length a.dc, .slice a.FA u.fd.length a.fc, .slice a.RA u.rest.length a.rc, .slice a.HA u.hol.length a.hc]] w fun e w' => BoolQ (DealsOk u.par u.dl) w e w' := by
  obtain ⟨W1, hW1⟩ : ∃ W1, W1 = w.alloc (.cells #[.slice a.PA u.par.length a.pc, .slice a.DA u.dl.length a.dc, .slice a.FA u.fd.length a.fc, .slice a.RA u.rest.length a.rc, .slice a.HA u.hol.length a.hc] 29) := ⟨_, rfl⟩
  have HS : Hid (∀ X, Below W1.heap.size W1 X → SbX w X u a) := Lib.hid fun X hX => SbX.of hA hW1 hX
  have HDl : Hid (∀ X (d : Dl) (A : Option Addr) (c : Nat), d ∈ u.dl → Below W1.heap.size W1 X → Calls Tryz.prog 36 #[.agg #[.slice a.PA u.par.length a.pc, .slice a.DA u.dl.length a.dc, .slice a.FA u.fd.length a.fc, .slice a.RA u.rest.length a.rc, .slice a.HA u.hol.length a.hc], .agg (dlA d A c)] X fun e w' => BoolQ (Deal8 u.par d) X e w') := Lib.hid fun X d A c hd hX => deal_d ((HS.out X hX).su.more (Nat.le_of_lt (HS.out X hX).lt)) hp0 (hz.txt d hd) (hz.box d hd)
  have HN : Hid (¬ DealsOk u.par u.dl → ∀ X, Below W1.heap.size W1 X → BoolQ (DealsOk u.par u.dl) w (.returned (.bool false)) X) := Lib.hid fun h X hX => BoolQ.no h (HS.out X hX).bw
  have HY : Hid (∀ (r : Bool) X, (r = true ↔ DealsOk u.par u.dl) → Below W1.heap.size W1 X → BoolQ (DealsOk u.par u.dl) w (.returned (.bool r)) X) := Lib.hid fun r X h hX => ⟨r, rfl, h, (HS.out X hX).bw⟩
  have HZ := Lib.hid hz
  have hd6 := hz.few
  have HW := Lib.hid hW1
  have HI0 : Hid (([] : List ByteArray) = marksOf (u.dl.take 0) ∧ DsTo u.par u.dl 0 ∧ Below W1.heap.size W1 (W1.alloc (.cells #[] 9)) ∧ Ow (W1.alloc (.cells #[] 9)) W1.heap.size (.slice (some ⟨W1.heap.size, 0, none⟩) ([] : List ByteArray).length 0) []) := Lib.hid ⟨by simp [marksOf], DsTo.zero, (Below.refl _ _).alloc (Nat.le_refl _) _, World.ownsRow_made W1 #[] 0 (Nat.le_refl _) (Nat.zero_le _) rfl⟩
  have HIs1 : Hid (∀ (d : Dl) (A : Option Addr) (c : Nat), (Tryz.prog.info? 72).map (·.size) = some (dlA d A c).toList.length) := Lib.hid fun d A c => infoDl17
  clear hW1 hA hz
  generalize BoolQ (DealsOk u.par u.dl) w = CP at *
  go_enter Tryz.func16, Tryz.ntmps16
  go_upto_region 1 with fail
  rw [← HW.out]
  clear HW
  go_wp2_with fail
  go_loopw [4, 5, 6, 7, 8, 3] (fun i _ _ _ _ v wr => ∃ (k : Nat) (A : Option Addr) (c : Nat) (M : List ByteArray), k ≤ u.dl.length ∧ i = .int .i64 (k : Int) ∧ v = .slice A M.length c ∧ Hid (M = marksOf (u.dl.take k) ∧ DsTo u.par u.dl k ∧ Below W1.heap.size W1 wr ∧ Ow wr W1.heap.size (.slice A M.length c) M)) (fun i _ _ _ _ _ _ => u.dl.length - (RowKit.intOf i).toNat)
  case atStart => exact ⟨0, _, _, [], Nat.zero_le _, rfl, rfl, HI0⟩
  case round =>
    clear HI0
    obtain ⟨k, A0, c0, M, hk, rfl, rfl, HI⟩ := hrel
    obtain ⟨k0, k1, k2, k3, k4, kl, hsu, hbw⟩ := HS.out wr HI.out.2.2.1
    by_cases hlt : k < u.dl.length
    · have b1 : (k : Int) < (u.dl.length : Int) := by omega
      obtain ⟨d, hd⟩ : ∃ d, u.dl[k]? = some d := ⟨u.dl[k], List.getElem?_eq_getElem hlt⟩
      obtain ⟨g, off, A', c', hDA, hg, hc, _, _⟩ := hsu.dl.at_ hd
      have hgw : g < wr.heap.size := by omega
      have HBr := Lib.hid HI.out.2.2.1
      have HBq : Hid (∀ X, Below wr.heap.size wr X → Below W1.heap.size W1 X) := Lib.hid fun X hX => HBr.out.trans (hX.mono HBr.out.size)
      have o1 : ∀ n : WC wr.heap.size wr, n.w.cell? ⟨w.heap.size, 1, none⟩ = some (.slice (some ⟨g, off, none⟩) u.dl.length a.dc) := fun n => by rw [← hDA]; exact (HS.out n.w (HBq.out n.w n.h)).c1
      have HLs : Hid (∀ X, (∃ n : WC wr.heap.size wr, X = n.w) → (Instr.loadAt 29 (.pointer (some ⟨w.heap.size, 0, none⟩))).run Tryz.prog X = .ok (.agg #[.slice a.PA u.par.length a.pc, .slice a.DA u.dl.length a.dc, .slice a.FA u.fd.length a.fc, .slice a.RA u.rest.length a.rc, .slice a.HA u.hol.length a.hc]) X) := Lib.hid fun X ⟨n, h⟩ => by
        rw [h]
        exact run_loadAt_mid n.w w.heap.size 0 29 (suA u a).toList _ (fun j v hv => by
          have hk := (HS.out n.w (HBq.out n.w n.h)).blk
          rw [Nat.zero_add]
          simp only [World.cell?, hk]
          rw [← Array.getElem?_toList]
          exact hv) Tryz.underlying29 rfl infoSu5
      have HLd : Hid (∀ X, (∃ n : WC wr.heap.size wr, X = n.w) → (Instr.loadAt 72 (.pointer (some ⟨g, off + k * 17, none⟩))).run Tryz.prog X = .ok (.agg (dlA d A' c')) X) := Lib.hid fun X ⟨n, h⟩ => by
        rw [h]
        exact run_loadAt_mid n.w g (off + k * 17) 72 (dlA d A' c').toList _ (fun j v hv => (n.h.cell (p := ⟨g, off + k * 17 + j, none⟩) hgw).trans (hc j v (by simpa using hv))) Tryz.underlying72 rfl (HIs1.out d A' c')
      have HC0 : Hid (∀ n : WC wr.heap.size wr, Calls Tryz.prog 36 #[.agg #[.slice a.PA u.par.length a.pc, .slice a.DA u.dl.length a.dc, .slice a.FA u.fd.length a.fc, .slice a.RA u.rest.length a.rc, .slice a.HA u.hol.length a.hc], .agg (dlA d A' c')] n.w fun e w' => BoolQ (Deal8 u.par d) n.w e w') := Lib.hid fun n => HDl.out n.w d A' c' (List.mem_of_getElem? hd) (HBq.out n.w n.h)
      rw [hDA] at k1
      have HD := Lib.hid hd
      clear hDA hc hsu hbw
      generalize dlA d A' c' = U at *
      by_cases h8 : Deal8 u.par d
      · have HC := Lib.hid (fun n : WC wr.heap.size wr => (HC0.out n).mono fun _ _ h => h.of_true h8)
        have H8 := Lib.hid h8
        clear HC0 h8 hd k0 k2 k3 k4
        go_wp2_with fail
        refine wp_region_class (by kernel_rfl) (by kernel_rfl) ?_
        repeat (first
          | (refine wpQuiet_load (by rfl) 29 (.tmp 1) rfl ⟨w.heap.size, 0, none⟩ rfl (.agg #[.slice a.PA u.par.length a.pc, .slice a.DA u.dl.length a.dc, .slice a.FA u.fd.length a.fc, .slice a.RA u.rest.length a.rc, .slice a.HA u.hol.length a.hc]) HLs.out ?_; simp only [Act.put, List.setIfInBounds_toArray, List.set_cons_zero, List.set_cons_succ])
          | (refine wpQuiet_load (by rfl) 72 (.tmp 21) rfl ⟨g, off + k * 17, none⟩ rfl (.agg U) HLd.out ?_; simp only [Act.put, List.setIfInBounds_toArray, List.set_cons_zero, List.set_cons_succ])
          | go_big_quiet_step ((go_at_call 36; with_reducible exact Calls.class_of (Nat.le_refl _) (HC.out _))))
        refine wpQuiet_nil ?_
        rintro w' ⟨n, rfl⟩
        have HBn := Lib.hid n.h
        clear o1 HLs HLd HC k1
        generalize n.w = w3 at *
        have HB3 := Lib.hid (HBq.out w3 HBn.out)
        have HO3 : Hid (Ow w3 W1.heap.size (.slice A0 M.length c0) M) := Lib.hid (HI.out.2.2.2.below HBn.out)
        have HI1 : Hid (M = marksOf (u.dl.take k) ∧ DsTo u.par u.dl k) := Lib.hid ⟨HI.out.1, HI.out.2.1⟩
        clear HI HBn HBr HBq
        have HBi := Lib.hid (Below.refl w3.heap.size w3)
        go_wp2_with fail
        go_loopw [5] (fun i wr => ∃ q : Nat, q ≤ k ∧ i = .int .i64 (q : Int) ∧ Hid (∀ i x, i < q → u.dl[i]? = some x → x.num ≠ d.num) ∧ Hid (Below w3.heap.size w3 wr)) (fun i _ => k - (RowKit.intOf i).toNat)
        case atStart => exact ⟨0, Nat.zero_le _, rfl, Lib.hid (fun i x hi => by omega), HBi⟩
        case round =>
          clear HBi
          obtain ⟨q, hq, rfl, HQ, HB4⟩ := hrel
          have HB5 := Lib.hid (HB3.out.trans (HB4.out.mono HB3.out.size))
          obtain ⟨k0, k1, k2, k3, k4, kl, hsu, hbw⟩ := HS.out wr HB5.out
          by_cases hqk : q < k
          · have b2 : (q : Int) < (k : Int) := by omega
            have hql : q < u.dl.length := by omega
            have b3 : (q : Int) < (u.dl.length : Int) := by omega
            obtain ⟨x, hx⟩ : ∃ x, u.dl[q]? = some x := ⟨u.dl[q], List.getElem?_eq_getElem hql⟩
            obtain ⟨g, off, A', c', hDA, hg, hc, _, _⟩ := hsu.dl.at_ HD.out
            obtain ⟨g2, off2, A2, c2, hDA2, hg2, hc2, _, _⟩ := hsu.dl.at_ hx
            rw [hDA] at hDA2
            injection hDA2 with e1
            injection e1 with e1 e2 _
            subst e1 e2
            have n1 := hc 0 _ (show (dlA d A' c')[0]? = some (.string d.num) from rfl)
            have n2 := hc2 0 _ (show (dlA x A2 c2)[0]? = some (.string x.num) from rfl)
            rw [Nat.add_zero] at n1 n2
            have hgw : g < wr.heap.size := by omega
            rw [hDA] at k1
            have HD1 : Hid (∀ n, Below w3.heap.size w3 (wr.drewN n)) := Lib.hid fun n => below_drewM HB4.out n
            clear hDA hc hc2 hsu hbw k0 k2 k3 k4
            by_cases hs : x.num = d.num
            · have b4 : (x.num.toList == d.num.toList) = true := by rw [ba_beq]; simp [hs]
              have HX : Hid (∀ n, CP (.returned (.bool false)) (wr.drewN n)) := Lib.hid fun n => HN.out (fun h => h.num_ne HD.out hqk hx hs) _ (HB3.out.trans ((HD1.out n).mono HB3.out.size))
              clear hs hx HQ HN HY
              go_wp2_with fail
              go_quiet (fail)
              go_wp2_with fail
              first
                | exact HX.out _
                | (go_ret; exact HX.out _)
            · have b4 : (x.num.toList == d.num.toList) = false := by rw [ba_beq]; simp [hs]
              have HQ2 : Hid (∀ i y, i < q + 1 → u.dl[i]? = some y → y.num ≠ d.num) := Lib.hid fun i z hi hz => by
                by_cases e : i = q
                · subst e; rw [hx] at hz; cases hz; exact hs
                · exact HQ.out i z (by omega) hz
              clear hs hx HQ
              go_wp2_with fail
              go_quiet (fail)
              go_wp2_with fail
              go_roundw
              case rel => exact ⟨q + 1, by omega, by go_num, HQ2, Lib.hid (HD1.out _)⟩
              case measure => simp [RowKit.intOf] <;> omega
          · have b2 : ¬ (q : Int) < (k : Int) := by omega
            obtain rfl : q = k := by omega
            have HJ0 : Hid (M = marksOf (u.dl.take q) ++ (d.box.take 0).map (·.m) ∧ BsTo u.dl q d 0 ∧ Below W1.heap.size W1 wr ∧ Ow wr W1.heap.size (.slice A0 M.length c0) M) := Lib.hid ⟨by rw [HI1.out.1]; simp, HI1.out.2.bs, HB5.out, HO3.out.below HB4.out⟩
            have HLn : Hid ((marksOf (u.dl.take q)).length ≤ 8 * q ∧ d.box.length ≤ 8) := Lib.hid ⟨HI1.out.2.len, H8.out.2.2⟩
            have hb8 := HLn.out.2
            have hm8 := HLn.out.1
            have HSd : Hid (BsTo u.dl q d d.box.length → DsTo u.par u.dl (q + 1)) := Lib.hid fun h => HI1.out.2.step HD.out H8.out HQ.out h
            clear hsu hbw HB5 HB4 HQ HI1 HO3 HB3 hqk k0 k1 k2 k3 k4
            go_wp2_with fail
            clear b2
            go_loopw [6, 7, 8, 3] (fun i _ _ v wr => ∃ (j : Nat) (A : Option Addr) (c : Nat) (M : List ByteArray), j ≤ d.box.length ∧ i = .int .i64 (j : Int) ∧ v = .slice A M.length c ∧ Hid (M = marksOf (u.dl.take q) ++ (d.box.take j).map (·.m) ∧ BsTo u.dl q d j ∧ Below W1.heap.size W1 wr ∧ Ow wr W1.heap.size (.slice A M.length c) M)) (fun i _ _ _ _ => d.box.length - (RowKit.intOf i).toNat)
            case atStart => exact ⟨0, _, _, M, Nat.zero_le _, rfl, rfl, HJ0⟩
            case round =>
              clear HJ0
              obtain ⟨j, A1, c1, M1, hj, rfl, rfl, HJ⟩ := hrel
              obtain ⟨k0, k1, k2, k3, k4, kl, hsu, hbw⟩ := HS.out wr HJ.out.2.2.1
              obtain ⟨g, off, A', c', hDA, hg, hc, hbx, hnil⟩ := hsu.dl.at_ HD.out
              have hgw : g < wr.heap.size := by omega
              have n11 := hc 11 _ (show (dlA d A' c')[11]? = some (.slice A' d.box.length c') from rfl)
              rw [hDA] at k1
              clear hDA hc hsu hbw
              by_cases hjl : j < d.box.length
              · have b2 : (j : Int) < (d.box.length : Int) := by omega
                obtain ⟨b, hb⟩ : ∃ b, d.box[j]? = some b := ⟨d.box[j], List.getElem?_eq_getElem hjl⟩
                obtain ⟨g2, off2, hA2, hg2, hx2⟩ := hbx (by omega)
                obtain ⟨A3, c3, m0, m1, m2, m3, m4⟩ := hx2 j b hb
                have hg2w : g2 < wr.heap.size := by omega
                rw [hA2] at n11
                have hml : M1.length ≤ 100 := by
                  have e : M1.length = (marksOf (u.dl.take q)).length + ((d.box.take j).map (·.m)).length := by rw [HJ.out.1, List.length_append]
                  rw [List.length_map, List.length_take] at e
                  omega
                obtain ⟨wy, hwy⟩ : ∃ wy, wy = wr.alloc (.cells #[.string b.m, .int .i64 b.k, .slice A3 b.l.length c3] 89) := ⟨_, rfl⟩
                have hby : Below wr.heap.size wr wy := by rw [hwy]; exact (Below.refl _ _).alloc (Nat.le_refl _) _
                have hyb : wy.heap[wr.heap.size]? = some (.cells #[.string b.m, .int .i64 b.k, .slice A3 b.l.length c3] 89 (0, 0)) := by rw [hwy]; exact heap_alloc_new _ _
                have hzs : wr.heap.size < wy.heap.size := (Array.getElem?_eq_some_iff.1 hyb).1
                have hBy := HJ.out.2.2.1.trans (hby.mono HJ.out.2.2.1.size)
                have HBy := Lib.hid hBy
                have HPc : Hid (∀ X, Below wy.heap.size wy X → X.cell? ⟨wr.heap.size, 0, none⟩ = some (.string b.m) ∧ X.cell? ⟨wr.heap.size, 1, none⟩ = some (.int .i64 b.k) ∧ X.cell? ⟨wr.heap.size, 2, none⟩ = some (.slice A3 b.l.length c3) ∧ wr.heap.size < X.heap.size) := Lib.hid fun X hX => by
                  have h := (hX.block _ hzs).trans hyb
                  exact ⟨by simp [World.cell?, h], by simp [World.cell?, h], by simp [World.cell?, h], Nat.lt_of_lt_of_le hzs hX.size⟩
                have HBw : Hid (∀ X, Below wy.heap.size wy X → Below W1.heap.size W1 X) := Lib.hid fun X hX => HBy.out.trans (hX.mono HBy.out.size)
                have HOy : Hid (Ow wy W1.heap.size (.slice A1 M1.length c1) M1) := Lib.hid (HJ.out.2.2.2.below hby)
                have HJ1 : Hid (M1 = marksOf (u.dl.take q) ++ (d.box.take j).map (·.m) ∧ BsTo u.dl q d j) := Lib.hid ⟨HJ.out.1, HJ.out.2.1⟩
                have HBx := Lib.hid (box_d (w := wy) (b := b) (A := A3) (c := c3) (B := w.heap.size) (m3.kept (hby.mono (by omega))) (by omega) (HZ.out.bx d (List.mem_of_getElem? HD.out) b (List.mem_of_getElem? hb)))
                have HWy := Lib.hid hwy
                have HBb := Lib.hid hb
                clear hwy hby hyb hzs hBy hx2 hA2 hb m3 m4 HJ hbx
                go_upto_region 16 with fail
                rw [← HWy.out]
                obtain ⟨p0, p1, p2, pl⟩ := HPc.out wy (Below.refl _ _)
                clear HWy m0 m1 m2 n11 k0 k1 k2 k3 k4
                go_wp2_with fail
                refine HBx.out.mono ?_
                rintro e w5 ⟨r, rfl, hr, hb5⟩
                have HRb := Lib.hid hr
                have HB5 := Lib.hid hb5
                clear hr hb5 HBx p0 p1 p2 pl
                cases r with
                | false =>
                  have HX := Lib.hid (HN.out (fun h => by have := HRb.out.2 (h.bxOk HD.out HBb.out); cases this) w5 (HBw.out w5 HB5.out))
                  clear HN HY HRb
                  go_wp2_with fail
                  first
                    | exact HX.out
                    | (go_ret; exact HX.out)
                | true =>
                  have HOk := Lib.hid (HRb.out.1 rfl)
                  have HO5 : Hid (Ow w5 W1.heap.size (.slice A1 M1.length c1) M1) := Lib.hid (HOy.out.below HB5.out)
                  have HBi := Lib.hid (Below.refl w5.heap.size w5)
                  clear HRb HOy
                  go_wp2_with fail
                  go_loopw [8] (fun i wr => ∃ n : Nat, n ≤ M1.length ∧ i = .int .i64 (n : Int) ∧ Hid (∀ i x, i < n → M1[i]? = some x → x ≠ b.m) ∧ Hid (Below w5.heap.size w5 wr)) (fun i _ => M1.length - (RowKit.intOf i).toNat)
                  case atStart => exact ⟨0, Nat.zero_le _, rfl, Lib.hid (fun i x hi => by omega), HBi⟩
                  case round =>
                    clear HBi
                    obtain ⟨n, hn, rfl, HM, HB6⟩ := hrel
                    have HB7 := Lib.hid (HB5.out.trans (HB6.out.mono HB5.out.size))
                    obtain ⟨p0, p1, p2, pl⟩ := HPc.out wr HB7.out
                    have HO6 : Hid (Ow wr W1.heap.size (.slice A1 M1.length c1) M1) := Lib.hid (HO5.out.below HB6.out)
                    by_cases hnl : n < M1.length
                    · have b3 : (n : Int) < (M1.length : Int) := by omega
                      obtain ⟨x, hx⟩ : ∃ x, M1[n]? = some x := ⟨M1[n], List.getElem?_eq_getElem hnl⟩
                      have heq : M1[n] = x := (List.getElem?_eq_some_iff.1 hx).2
                      obtain ⟨g3, rfl, hg3, hg3w, hm3⟩ := HO6.out.at_ hnl
                      rw [heq] at hm3
                      have HD1 : Hid (∀ m, Below w5.heap.size w5 (wr.drewN m)) := Lib.hid fun m => below_drewM HB6.out m
                      clear heq
                      by_cases hs : x = b.m
                      · have b4 : (x.toList == b.m.toList) = true := by rw [ba_beq]; simp [hs]
                        have HX : Hid (∀ m, CP (.returned (.bool false)) (wr.drewN m)) := Lib.hid fun m => HN.out (fun h => h.mark_ne HD.out HBb.out (by rw [← HJ1.out.1, ← hs]; exact List.mem_of_getElem? hx)) _ (HBw.out _ (HB5.out.trans ((HD1.out m).mono HB5.out.size)))
                        clear hs hx HM HN HY
                        go_wp2_with fail
                        go_quiet (fail)
                        go_wp2_with fail
                        first
                          | exact HX.out _
                          | (go_ret; exact HX.out _)
                      · have b4 : (x.toList == b.m.toList) = false := by rw [ba_beq]; simp [hs]
                        have HM2 : Hid (∀ i y, i < n + 1 → M1[i]? = some y → y ≠ b.m) := Lib.hid fun i z hi hz => by
                          by_cases e : i = n
                          · subst e; rw [hx] at hz; cases hz; exact hs
                          · exact HM.out i z (by omega) hz
                        clear hs hx HM
                        go_wp2_with fail
                        go_quiet (fail)
                        go_wp2_with fail
                        go_roundw
                        case rel => exact ⟨n + 1, by omega, by go_num, HM2, Lib.hid (HD1.out _)⟩
                        case measure => simp [RowKit.intOf] <;> omega
                    · have b3 : ¬ (n : Int) < (M1.length : Int) := by omega
                      obtain rfl : n = M1.length := by omega
                      have HNi : Hid (b.m ∉ M1) := Lib.hid fun h => by
                        obtain ⟨i, hi⟩ := List.mem_iff_getElem?.1 h
                        exact HM.out i b.m (List.getElem?_eq_some_iff.1 hi).1 hi rfl
                      have HBv := Lib.hid (HBw.out wr HB7.out)
                      obtain ⟨A2, c2, w9, hrn, hO9, hB9⟩ := HO6.out.push HBv.out HBv.out.size b.m (by omega)
                      have HX : Hid (M1 ++ [b.m] = marksOf (u.dl.take q) ++ (d.box.take (j + 1)).map (·.m) ∧ BsTo u.dl q d (j + 1) ∧ Below W1.heap.size W1 w9 ∧ Ow w9 W1.heap.size (.slice A2 (M1 ++ [b.m]).length c2) (M1 ++ [b.m])) := Lib.hid ⟨by
                        rw [take_snoc' HBb.out, List.map_append, ← List.append_assoc, ← HJ1.out.1]
                        rfl, HJ1.out.2.step HBb.out HOk.out (by rw [← HJ1.out.1]; exact HNi.out), hB9, hO9⟩
                      clear HN HY HM HB6 HB7 HO6 HO5 HBv hO9 hB9 HNi hn hnl
                      go_wp2_with (at_builtin; refine Lib.wpList_append_run _ rfl (.tmp 79) (.tmp 82) 47 47 rfl (.slice A1 M1.length c1) (.slice (some ⟨wr.heap.size, 0, none⟩) 1 1) (by rfl) (by rfl) _ _ hrn ?_)
                      go_roundw
                      case rel => exact ⟨j + 1, A2, c2, M1 ++ [b.m], by omega, by go_num, by rw [List.length_append]; rfl, HX⟩
                      case measure => simp [RowKit.intOf] <;> omega
              · have b2 : ¬ (j : Int) < (d.box.length : Int) := by omega
                obtain rfl : j = d.box.length := by omega
                have HX : Hid (M1 = marksOf (u.dl.take (q + 1)) ∧ DsTo u.par u.dl (q + 1) ∧ Below W1.heap.size W1 wr ∧ Ow wr W1.heap.size (.slice A1 M1.length c1) M1) := Lib.hid ⟨by
                  rw [HJ.out.1, List.take_length, take_snoc' HD.out, marksOf_app, marksOf_one], HSd.out HJ.out.2.1, HJ.out.2.2⟩
                clear HJ HN HY HSd hbx
                go_wp2_with fail
                go_roundw
                case rel => exact ⟨q + 1, A1, c1, M1, by omega, by go_num, rfl, HX⟩
                case measure => simp [RowKit.intOf] <;> omega
      · have HC := Lib.hid (fun n : WC wr.heap.size wr => (HC0.out n).mono fun _ _ h => h.of_false h8)
        have HX : Hid (∀ n : WC wr.heap.size wr, CP (.returned (.bool false)) n.w) := Lib.hid fun n => HN.out (fun h => h8 (h.deal8 HD.out)) n.w (HBq.out n.w n.h)
        clear HC0 h8 HN HY hd HI k0 k2 k3 k4
        go_wp2_with fail
        refine wp_region_class (by kernel_rfl) (by kernel_rfl) ?_
        repeat (first
          | (refine wpQuiet_load (by rfl) 29 (.tmp 1) rfl ⟨w.heap.size, 0, none⟩ rfl (.agg #[.slice a.PA u.par.length a.pc, .slice a.DA u.dl.length a.dc, .slice a.FA u.fd.length a.fc, .slice a.RA u.rest.length a.rc, .slice a.HA u.hol.length a.hc]) HLs.out ?_; simp only [Act.put, List.setIfInBounds_toArray, List.set_cons_zero, List.set_cons_succ])
          | (refine wpQuiet_load (by rfl) 72 (.tmp 21) rfl ⟨g, off + k * 17, none⟩ rfl (.agg U) HLd.out ?_; simp only [Act.put, List.setIfInBounds_toArray, List.set_cons_zero, List.set_cons_succ])
          | go_big_quiet_step ((go_at_call 36; with_reducible exact Calls.class_of (Nat.le_refl _) (HC.out _))))
        refine wpQuiet_nil ?_
        rintro w' ⟨n, rfl⟩
        have HX2 := Lib.hid (HX.out n)
        clear o1 HLs HLd HC HX
        go_wp2_with fail
        first
          | exact HX2.out
          | (go_ret; exact HX2.out)
    · have b1 : ¬ (k : Int) < (u.dl.length : Int) := by omega
      obtain rfl : k = u.dl.length := by omega
      have HX : Hid (∀ r : Bool, (r = true ↔ (u.dl.length : Int) ≤ 16) → CP (.returned (.bool r)) wr) := Lib.hid fun r hr => HY.out r wr (by rw [hr, HI.out.2.1.all]; omega) HI.out.2.2.1
      clear HN HY HI hk hlt hsu hbw
      go_wp2_with fail
      first
        | exact HX.out _ (by simp)
        | (go_ret; exact HX.out _ (by simp))
end Go.Proofs.YtchkdidpnjakeaaGreatDoor
